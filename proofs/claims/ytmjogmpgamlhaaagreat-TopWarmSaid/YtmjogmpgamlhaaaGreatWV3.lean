import Derived.Test.YtmjogmpgamlhaaaGreatWL0
import Derived.Test.YtmjogmpgamlhaaaGreatWK
set_option linter.unusedVariables false
set_option linter.unusedSimpArgs false
set_option linter.unusedSectionVars false
set_option maxRecDepth 100000
set_option maxHeartbeats 0
namespace Go.Proofs.YtmjogmpgamlhaaaGreat
open Go Go.Proofs.YtmjogmpgamlhaaaGreat.Dm Go.RowKit Go.Lib
theorem my3_2_ffft_vvvt (p0 p1 p2 : Bool) : mV [(7271, 7272)] (dlt 9) 7500 (Hy3_2_ffft_vvvt p0 p1 p2) (OS3 false false false false p0 p1 p2 false) = true := by
  cases p0 <;> cases p1 <;> cases p2 <;> kernel_rfl
theorem my3_2_ffft_vvvf (p0 p1 p2 : Bool) : mV [(7169, 7170), (7256, 7257), (7271, 7273)] (dlt 9) 7500 (Hy3_2_ffft_vvvf p0 p1 p2) (OS3 false false false false p0 p1 p2 false) = true := by
  cases p0 <;> cases p1 <;> cases p2 <;> kernel_rfl
theorem my3_2_tfft_vvvt (p0 p1 p2 : Bool) : mV [(7271, 7273)] (dlt 9) 7500 (Hy3_2_tfft_vvvt p0 p1 p2) (OS3 true false false false p0 p1 p2 false) = true := by
  cases p0 <;> cases p1 <;> cases p2 <;> kernel_rfl
theorem my3_2_tfft_vvvf (p0 p1 p2 : Bool) : mV [(7169, 7170), (7256, 7257), (7271, 7274)] (dlt 9) 7500 (Hy3_2_tfft_vvvf p0 p1 p2) (OS3 true false false false p0 p1 p2 false) = true := by
  cases p0 <;> cases p1 <;> cases p2 <;> kernel_rfl
theorem my3_2_ftft_vvvt (p0 p1 p2 : Bool) : mV [(7271, 7273)] (dlt 9) 7500 (Hy3_2_ftft_vvvt p0 p1 p2) (OS3 false true false false p0 p1 p2 false) = true := by
  cases p0 <;> cases p1 <;> cases p2 <;> kernel_rfl
theorem my3_2_ftft_vvvf (p0 p1 p2 : Bool) : mV [(7169, 7170), (7256, 7257), (7271, 7274)] (dlt 9) 7500 (Hy3_2_ftft_vvvf p0 p1 p2) (OS3 false true false false p0 p1 p2 false) = true := by
  cases p0 <;> cases p1 <;> cases p2 <;> kernel_rfl
theorem my3_2_ttft_vvvt (p0 p1 p2 : Bool) : mV [(7271, 7274)] (dlt 9) 7500 (Hy3_2_ttft_vvvt p0 p1 p2) (OS3 true true false false p0 p1 p2 false) = true := by
  cases p0 <;> cases p1 <;> cases p2 <;> kernel_rfl
theorem my3_2_ttft_vvvf (p0 p1 p2 : Bool) : mV [(7169, 7170), (7256, 7257), (7271, 7275)] (dlt 9) 7500 (Hy3_2_ttft_vvvf p0 p1 p2) (OS3 true true false false p0 p1 p2 false) = true := by
  cases p0 <;> cases p1 <;> cases p2 <;> kernel_rfl
theorem my3_2_fftt_vvvt (p0 p1 p2 : Bool) : mV [(7271, 7273)] (dlt 9) 7500 (Hy3_2_fftt_vvvt p0 p1 p2) (OS3 false false true false p0 p1 p2 false) = true := by
  cases p0 <;> cases p1 <;> cases p2 <;> kernel_rfl
theorem my3_2_fftt_vvvf (p0 p1 p2 : Bool) : mV [(7169, 7170), (7256, 7257), (7271, 7274)] (dlt 9) 7500 (Hy3_2_fftt_vvvf p0 p1 p2) (OS3 false false true false p0 p1 p2 false) = true := by
  cases p0 <;> cases p1 <;> cases p2 <;> kernel_rfl
theorem my3_2_tftt_vvvt (p0 p1 p2 : Bool) : mV [(7271, 7274)] (dlt 9) 7500 (Hy3_2_tftt_vvvt p0 p1 p2) (OS3 true false true false p0 p1 p2 false) = true := by
  cases p0 <;> cases p1 <;> cases p2 <;> kernel_rfl
theorem my3_2_tftt_vvvf (p0 p1 p2 : Bool) : mV [(7169, 7170), (7256, 7257), (7271, 7275)] (dlt 9) 7500 (Hy3_2_tftt_vvvf p0 p1 p2) (OS3 true false true false p0 p1 p2 false) = true := by
  cases p0 <;> cases p1 <;> cases p2 <;> kernel_rfl
theorem my3_2_fttt_vvvt (p0 p1 p2 : Bool) : mV [(7271, 7274)] (dlt 9) 7500 (Hy3_2_fttt_vvvt p0 p1 p2) (OS3 false true true false p0 p1 p2 false) = true := by
  cases p0 <;> cases p1 <;> cases p2 <;> kernel_rfl
theorem my3_2_fttt_vvvf (p0 p1 p2 : Bool) : mV [(7169, 7170), (7256, 7257), (7271, 7275)] (dlt 9) 7500 (Hy3_2_fttt_vvvf p0 p1 p2) (OS3 false true true false p0 p1 p2 false) = true := by
  cases p0 <;> cases p1 <;> cases p2 <;> kernel_rfl
theorem my3_2_tttt_vvvt (p0 p1 p2 : Bool) : mV [(7271, 7275)] (dlt 9) 7500 (Hy3_2_tttt_vvvt p0 p1 p2) (OS3 true true true false p0 p1 p2 false) = true := by
  cases p0 <;> cases p1 <;> cases p2 <;> kernel_rfl
theorem my3_2_tttt_vvvf (p0 p1 p2 : Bool) : mV [(7169, 7170), (7256, 7257), (7271, 7276)] (dlt 9) 7500 (Hy3_2_tttt_vvvf p0 p1 p2) (OS3 true true true false p0 p1 p2 false) = true := by
  cases p0 <;> cases p1 <;> cases p2 <;> kernel_rfl
theorem my3_1_ffff_vvvv (p0 p1 p2 p3 : Bool) : mV [] (dlt 9) 7120 (Hy3_1_ffff_vvvv p0 p1 p2 p3) (SS false false false false p0 p1 p2 p3) = true := by
  cases p0 <;> cases p1 <;> cases p2 <;> cases p3 <;> kernel_rfl
theorem my3_1_tfff_vvvv (p0 p1 p2 p3 : Bool) : mV [] (dlt 9) 7120 (Hy3_1_tfff_vvvv p0 p1 p2 p3) (SS true false false false p0 p1 p2 p3) = true := by
  cases p0 <;> cases p1 <;> cases p2 <;> cases p3 <;> kernel_rfl
theorem my3_1_ftff_vvvv (p0 p1 p2 p3 : Bool) : mV [] (dlt 9) 7120 (Hy3_1_ftff_vvvv p0 p1 p2 p3) (SS false true false false p0 p1 p2 p3) = true := by
  cases p0 <;> cases p1 <;> cases p2 <;> cases p3 <;> kernel_rfl
theorem my3_1_ttff_vvvv (p0 p1 p2 p3 : Bool) : mV [] (dlt 9) 7120 (Hy3_1_ttff_vvvv p0 p1 p2 p3) (SS true true false false p0 p1 p2 p3) = true := by
  cases p0 <;> cases p1 <;> cases p2 <;> cases p3 <;> kernel_rfl
theorem my3_1_fftf_vvvv (p0 p1 p2 p3 : Bool) : mV [] (dlt 9) 7120 (Hy3_1_fftf_vvvv p0 p1 p2 p3) (SS false false true false p0 p1 p2 p3) = true := by
  cases p0 <;> cases p1 <;> cases p2 <;> cases p3 <;> kernel_rfl
theorem my3_1_tftf_vvvv (p0 p1 p2 p3 : Bool) : mV [] (dlt 9) 7120 (Hy3_1_tftf_vvvv p0 p1 p2 p3) (SS true false true false p0 p1 p2 p3) = true := by
  cases p0 <;> cases p1 <;> cases p2 <;> cases p3 <;> kernel_rfl
theorem my3_1_fttf_vvvv (p0 p1 p2 p3 : Bool) : mV [] (dlt 9) 7120 (Hy3_1_fttf_vvvv p0 p1 p2 p3) (SS false true true false p0 p1 p2 p3) = true := by
  cases p0 <;> cases p1 <;> cases p2 <;> cases p3 <;> kernel_rfl
theorem my3_1_tttf_vvvv (p0 p1 p2 p3 : Bool) : mV [] (dlt 9) 7120 (Hy3_1_tttf_vvvv p0 p1 p2 p3) (SS true true true false p0 p1 p2 p3) = true := by
  cases p0 <;> cases p1 <;> cases p2 <;> cases p3 <;> kernel_rfl
theorem my3_1_ffft_vvvv (p0 p1 p2 p3 : Bool) : mV [] (dlt 9) 7120 (Hy3_1_ffft_vvvv p0 p1 p2 p3) (SS false false false false p0 p1 p2 p3) = true := by
  cases p0 <;> cases p1 <;> cases p2 <;> cases p3 <;> kernel_rfl
theorem my3_1_tfft_vvvv (p0 p1 p2 p3 : Bool) : mV [] (dlt 9) 7120 (Hy3_1_tfft_vvvv p0 p1 p2 p3) (SS true false false false p0 p1 p2 p3) = true := by
  cases p0 <;> cases p1 <;> cases p2 <;> cases p3 <;> kernel_rfl
theorem my3_1_ftft_vvvv (p0 p1 p2 p3 : Bool) : mV [] (dlt 9) 7120 (Hy3_1_ftft_vvvv p0 p1 p2 p3) (SS false true false false p0 p1 p2 p3) = true := by
  cases p0 <;> cases p1 <;> cases p2 <;> cases p3 <;> kernel_rfl
theorem my3_1_ttft_vvvv (p0 p1 p2 p3 : Bool) : mV [] (dlt 9) 7120 (Hy3_1_ttft_vvvv p0 p1 p2 p3) (SS true true false false p0 p1 p2 p3) = true := by
  cases p0 <;> cases p1 <;> cases p2 <;> cases p3 <;> kernel_rfl
theorem my3_1_fftt_vvvv (p0 p1 p2 p3 : Bool) : mV [] (dlt 9) 7120 (Hy3_1_fftt_vvvv p0 p1 p2 p3) (SS false false true false p0 p1 p2 p3) = true := by
  cases p0 <;> cases p1 <;> cases p2 <;> cases p3 <;> kernel_rfl
theorem my3_1_tftt_vvvv (p0 p1 p2 p3 : Bool) : mV [] (dlt 9) 7120 (Hy3_1_tftt_vvvv p0 p1 p2 p3) (SS true false true false p0 p1 p2 p3) = true := by
  cases p0 <;> cases p1 <;> cases p2 <;> cases p3 <;> kernel_rfl
theorem my3_1_fttt_vvvv (p0 p1 p2 p3 : Bool) : mV [] (dlt 9) 7120 (Hy3_1_fttt_vvvv p0 p1 p2 p3) (SS false true true false p0 p1 p2 p3) = true := by
  cases p0 <;> cases p1 <;> cases p2 <;> cases p3 <;> kernel_rfl
theorem my3_1_tttt_vvvv (p0 p1 p2 p3 : Bool) : mV [] (dlt 9) 7120 (Hy3_1_tttt_vvvv p0 p1 p2 p3) (SS true true true false p0 p1 p2 p3) = true := by
  cases p0 <;> cases p1 <;> cases p2 <;> cases p3 <;> kernel_rfl
theorem my0_0_ffff_vvvv (p0 p1 p2 p3 : Bool) : mV [] (dlt 9) 7120 (Hy0_0_ffff_vvvv p0 p1 p2 p3) (SS false false false false p0 p1 p2 p3) = true := by
  cases p0 <;> cases p1 <;> cases p2 <;> cases p3 <;> kernel_rfl
theorem my0_3_ffff_vvvv (p0 p1 p2 p3 : Bool) : mV [] (dlt 9) 7120 (Hy0_3_ffff_vvvv p0 p1 p2 p3) (SS false false false false p0 p1 p2 p3) = true := by
  cases p0 <;> cases p1 <;> cases p2 <;> cases p3 <;> kernel_rfl
theorem my0_0_tfff_vvvv (p0 p1 p2 p3 : Bool) : mV [] (dlt 9) 7120 (Hy0_0_tfff_vvvv p0 p1 p2 p3) (SS false false false false p0 p1 p2 p3) = true := by
  cases p0 <;> cases p1 <;> cases p2 <;> cases p3 <;> kernel_rfl
theorem my0_3_tfff_vvvv (p0 p1 p2 p3 : Bool) : mV [] (dlt 9) 7120 (Hy0_3_tfff_vvvv p0 p1 p2 p3) (SS true false false false p0 p1 p2 p3) = true := by
  cases p0 <;> cases p1 <;> cases p2 <;> cases p3 <;> kernel_rfl
theorem my0_0_ftff_vvvv (p0 p1 p2 p3 : Bool) : mV [] (dlt 9) 7120 (Hy0_0_ftff_vvvv p0 p1 p2 p3) (SS false false false false p0 p1 p2 p3) = true := by
  cases p0 <;> cases p1 <;> cases p2 <;> cases p3 <;> kernel_rfl
theorem my0_3_ftff_vvvv (p0 p1 p2 p3 : Bool) : mV [] (dlt 9) 7120 (Hy0_3_ftff_vvvv p0 p1 p2 p3) (SS false true false false p0 p1 p2 p3) = true := by
  cases p0 <;> cases p1 <;> cases p2 <;> cases p3 <;> kernel_rfl
theorem my0_0_ttff_vvvv (p0 p1 p2 p3 : Bool) : mV [] (dlt 9) 7120 (Hy0_0_ttff_vvvv p0 p1 p2 p3) (SS false false false false p0 p1 p2 p3) = true := by
  cases p0 <;> cases p1 <;> cases p2 <;> cases p3 <;> kernel_rfl
theorem my0_3_ttff_vvvv (p0 p1 p2 p3 : Bool) : mV [] (dlt 9) 7120 (Hy0_3_ttff_vvvv p0 p1 p2 p3) (SS true true false false p0 p1 p2 p3) = true := by
  cases p0 <;> cases p1 <;> cases p2 <;> cases p3 <;> kernel_rfl
theorem my0_0_fftf_vvvv (p0 p1 p2 p3 : Bool) : mV [] (dlt 9) 7120 (Hy0_0_fftf_vvvv p0 p1 p2 p3) (SS false false false false p0 p1 p2 p3) = true := by
  cases p0 <;> cases p1 <;> cases p2 <;> cases p3 <;> kernel_rfl
theorem my0_3_fftf_vvvv (p0 p1 p2 p3 : Bool) : mV [] (dlt 9) 7120 (Hy0_3_fftf_vvvv p0 p1 p2 p3) (SS false false true false p0 p1 p2 p3) = true := by
  cases p0 <;> cases p1 <;> cases p2 <;> cases p3 <;> kernel_rfl
theorem my0_0_tftf_vvvv (p0 p1 p2 p3 : Bool) : mV [] (dlt 9) 7120 (Hy0_0_tftf_vvvv p0 p1 p2 p3) (SS false false false false p0 p1 p2 p3) = true := by
  cases p0 <;> cases p1 <;> cases p2 <;> cases p3 <;> kernel_rfl
theorem my0_3_tftf_vvvv (p0 p1 p2 p3 : Bool) : mV [] (dlt 9) 7120 (Hy0_3_tftf_vvvv p0 p1 p2 p3) (SS true false true false p0 p1 p2 p3) = true := by
  cases p0 <;> cases p1 <;> cases p2 <;> cases p3 <;> kernel_rfl
theorem my0_0_fttf_vvvv (p0 p1 p2 p3 : Bool) : mV [] (dlt 9) 7120 (Hy0_0_fttf_vvvv p0 p1 p2 p3) (SS false false false false p0 p1 p2 p3) = true := by
  cases p0 <;> cases p1 <;> cases p2 <;> cases p3 <;> kernel_rfl
theorem my0_3_fttf_vvvv (p0 p1 p2 p3 : Bool) : mV [] (dlt 9) 7120 (Hy0_3_fttf_vvvv p0 p1 p2 p3) (SS false true true false p0 p1 p2 p3) = true := by
  cases p0 <;> cases p1 <;> cases p2 <;> cases p3 <;> kernel_rfl
theorem my0_0_tttf_vvvv (p0 p1 p2 p3 : Bool) : mV [] (dlt 9) 7120 (Hy0_0_tttf_vvvv p0 p1 p2 p3) (SS false false false false p0 p1 p2 p3) = true := by
  cases p0 <;> cases p1 <;> cases p2 <;> cases p3 <;> kernel_rfl
theorem my0_3_tttf_vvvv (p0 p1 p2 p3 : Bool) : mV [] (dlt 9) 7120 (Hy0_3_tttf_vvvv p0 p1 p2 p3) (SS true true true false p0 p1 p2 p3) = true := by
  cases p0 <;> cases p1 <;> cases p2 <;> cases p3 <;> kernel_rfl
theorem my0_0_ffft_vvvv (p0 p1 p2 p3 : Bool) : mV [] (dlt 9) 7120 (Hy0_0_ffft_vvvv p0 p1 p2 p3) (SS false false false false p0 p1 p2 p3) = true := by
  cases p0 <;> cases p1 <;> cases p2 <;> cases p3 <;> kernel_rfl
theorem my0_3_ffft_vvvv (p0 p1 p2 p3 : Bool) : mV [] (dlt 9) 7120 (Hy0_3_ffft_vvvv p0 p1 p2 p3) (SS false false false true p0 p1 p2 p3) = true := by
  cases p0 <;> cases p1 <;> cases p2 <;> cases p3 <;> kernel_rfl
theorem my0_0_tfft_vvvv (p0 p1 p2 p3 : Bool) : mV [] (dlt 9) 7120 (Hy0_0_tfft_vvvv p0 p1 p2 p3) (SS false false false false p0 p1 p2 p3) = true := by
  cases p0 <;> cases p1 <;> cases p2 <;> cases p3 <;> kernel_rfl
theorem my0_3_tfft_vvvv (p0 p1 p2 p3 : Bool) : mV [] (dlt 9) 7120 (Hy0_3_tfft_vvvv p0 p1 p2 p3) (SS true false false true p0 p1 p2 p3) = true := by
  cases p0 <;> cases p1 <;> cases p2 <;> cases p3 <;> kernel_rfl
theorem my0_0_ftft_vvvv (p0 p1 p2 p3 : Bool) : mV [] (dlt 9) 7120 (Hy0_0_ftft_vvvv p0 p1 p2 p3) (SS false false false false p0 p1 p2 p3) = true := by
  cases p0 <;> cases p1 <;> cases p2 <;> cases p3 <;> kernel_rfl
theorem my0_3_ftft_vvvv (p0 p1 p2 p3 : Bool) : mV [] (dlt 9) 7120 (Hy0_3_ftft_vvvv p0 p1 p2 p3) (SS false true false true p0 p1 p2 p3) = true := by
  cases p0 <;> cases p1 <;> cases p2 <;> cases p3 <;> kernel_rfl
theorem my0_0_ttft_vvvv (p0 p1 p2 p3 : Bool) : mV [] (dlt 9) 7120 (Hy0_0_ttft_vvvv p0 p1 p2 p3) (SS false false false false p0 p1 p2 p3) = true := by
  cases p0 <;> cases p1 <;> cases p2 <;> cases p3 <;> kernel_rfl
theorem my0_3_ttft_vvvv (p0 p1 p2 p3 : Bool) : mV [] (dlt 9) 7120 (Hy0_3_ttft_vvvv p0 p1 p2 p3) (SS true true false true p0 p1 p2 p3) = true := by
  cases p0 <;> cases p1 <;> cases p2 <;> cases p3 <;> kernel_rfl
theorem my0_0_fftt_vvvv (p0 p1 p2 p3 : Bool) : mV [] (dlt 9) 7120 (Hy0_0_fftt_vvvv p0 p1 p2 p3) (SS false false false false p0 p1 p2 p3) = true := by
  cases p0 <;> cases p1 <;> cases p2 <;> cases p3 <;> kernel_rfl
theorem my0_3_fftt_vvvv (p0 p1 p2 p3 : Bool) : mV [] (dlt 9) 7120 (Hy0_3_fftt_vvvv p0 p1 p2 p3) (SS false false true true p0 p1 p2 p3) = true := by
  cases p0 <;> cases p1 <;> cases p2 <;> cases p3 <;> kernel_rfl
theorem my0_0_tftt_vvvv (p0 p1 p2 p3 : Bool) : mV [] (dlt 9) 7120 (Hy0_0_tftt_vvvv p0 p1 p2 p3) (SS false false false false p0 p1 p2 p3) = true := by
  cases p0 <;> cases p1 <;> cases p2 <;> cases p3 <;> kernel_rfl
theorem my0_3_tftt_vvvv (p0 p1 p2 p3 : Bool) : mV [] (dlt 9) 7120 (Hy0_3_tftt_vvvv p0 p1 p2 p3) (SS true false true true p0 p1 p2 p3) = true := by
  cases p0 <;> cases p1 <;> cases p2 <;> cases p3 <;> kernel_rfl
end Go.Proofs.YtmjogmpgamlhaaaGreat

set_option maxRecDepth 100000
set_option maxHeartbeats 0
namespace Go.Proofs.YtmjogmpgamlhaaaGreat
open Go Go.Proofs.YtmjogmpgamlhaaaGreat.Dm Go.RowKit Go.Lib
theorem my0_0_fttt_vvvv (p0 p1 p2 p3 : Bool) : mV [] (dlt 9) 7120 (Hy0_0_fttt_vvvv p0 p1 p2 p3) (SS false false false false p0 p1 p2 p3) = true := by
  cases p0 <;> cases p1 <;> cases p2 <;> cases p3 <;> kernel_rfl
theorem my0_3_fttt_vvvv (p0 p1 p2 p3 : Bool) : mV [] (dlt 9) 7120 (Hy0_3_fttt_vvvv p0 p1 p2 p3) (SS false true true true p0 p1 p2 p3) = true := by
  cases p0 <;> cases p1 <;> cases p2 <;> cases p3 <;> kernel_rfl
theorem my0_0_tttt_vvvv (p0 p1 p2 p3 : Bool) : mV [] (dlt 9) 7120 (Hy0_0_tttt_vvvv p0 p1 p2 p3) (SS false false false false p0 p1 p2 p3) = true := by
  cases p0 <;> cases p1 <;> cases p2 <;> cases p3 <;> kernel_rfl
theorem my0_3_tttt_vvvv (p0 p1 p2 p3 : Bool) : mV [] (dlt 9) 7120 (Hy0_3_tttt_vvvv p0 p1 p2 p3) (SS true true true true p0 p1 p2 p3) = true := by
  cases p0 <;> cases p1 <;> cases p2 <;> cases p3 <;> kernel_rfl
end Go.Proofs.YtmjogmpgamlhaaaGreat
