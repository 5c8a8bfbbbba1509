import Derived.Test.YtmjogmpgamlhaaaGreatWL0
import Derived.Test.YtmjogmpgamlhaaaGreatWK
set_option linter.unusedVariables false
set_option linter.unusedSimpArgs false
set_option linter.unusedSectionVars false
set_option maxRecDepth 100000
set_option maxHeartbeats 0
namespace Go.Proofs.YtmjogmpgamlhaaaGreat
open Go Go.Proofs.YtmjogmpgamlhaaaGreat.Dm Go.RowKit Go.Lib
theorem my2_2_fftf_vvfv (p0 p1 p3 : Bool) : mV [(7169, 7170), (7256, 7257), (7271, 7273)] (dlt 9) 7500 (Hy2_2_fftf_vvfv p0 p1 p3) (OS2 false false false false p0 p1 false p3) = true := by
  cases p0 <;> cases p1 <;> cases p3 <;> kernel_rfl
theorem my2_2_tftf_vvtv (p0 p1 p3 : Bool) : mV [(7271, 7273)] (dlt 9) 7500 (Hy2_2_tftf_vvtv p0 p1 p3) (OS2 true false false false p0 p1 false p3) = true := by
  cases p0 <;> cases p1 <;> cases p3 <;> kernel_rfl
theorem my2_2_tftf_vvfv (p0 p1 p3 : Bool) : mV [(7169, 7170), (7256, 7257), (7271, 7274)] (dlt 9) 7500 (Hy2_2_tftf_vvfv p0 p1 p3) (OS2 true false false false p0 p1 false p3) = true := by
  cases p0 <;> cases p1 <;> cases p3 <;> kernel_rfl
theorem my2_2_fttf_vvtv (p0 p1 p3 : Bool) : mV [(7271, 7273)] (dlt 9) 7500 (Hy2_2_fttf_vvtv p0 p1 p3) (OS2 false true false false p0 p1 false p3) = true := by
  cases p0 <;> cases p1 <;> cases p3 <;> kernel_rfl
theorem my2_2_fttf_vvfv (p0 p1 p3 : Bool) : mV [(7169, 7170), (7256, 7257), (7271, 7274)] (dlt 9) 7500 (Hy2_2_fttf_vvfv p0 p1 p3) (OS2 false true false false p0 p1 false p3) = true := by
  cases p0 <;> cases p1 <;> cases p3 <;> kernel_rfl
theorem my2_2_tttf_vvtv (p0 p1 p3 : Bool) : mV [(7271, 7274)] (dlt 9) 7500 (Hy2_2_tttf_vvtv p0 p1 p3) (OS2 true true false false p0 p1 false p3) = true := by
  cases p0 <;> cases p1 <;> cases p3 <;> kernel_rfl
theorem my2_2_tttf_vvfv (p0 p1 p3 : Bool) : mV [(7169, 7170), (7256, 7257), (7271, 7275)] (dlt 9) 7500 (Hy2_2_tttf_vvfv p0 p1 p3) (OS2 true true false false p0 p1 false p3) = true := by
  cases p0 <;> cases p1 <;> cases p3 <;> kernel_rfl
theorem my2_2_ffft_vvtv (p0 p1 p3 : Bool) : mV [(7271, 7272)] (dlt 9) 7500 (Hy2_2_ffft_vvtv p0 p1 p3) (OS2 false false false true p0 p1 false p3) = true := by
  cases p0 <;> cases p1 <;> cases p3 <;> kernel_rfl
theorem my2_2_ffft_vvfv (p0 p1 p3 : Bool) : mV [(7169, 7170), (7256, 7257), (7271, 7273)] (dlt 9) 7500 (Hy2_2_ffft_vvfv p0 p1 p3) (OS2 false false false true p0 p1 false p3) = true := by
  cases p0 <;> cases p1 <;> cases p3 <;> kernel_rfl
theorem my2_2_tfft_vvtv (p0 p1 p3 : Bool) : mV [(7271, 7273)] (dlt 9) 7500 (Hy2_2_tfft_vvtv p0 p1 p3) (OS2 true false false true p0 p1 false p3) = true := by
  cases p0 <;> cases p1 <;> cases p3 <;> kernel_rfl
theorem my2_2_tfft_vvfv (p0 p1 p3 : Bool) : mV [(7169, 7170), (7256, 7257), (7271, 7274)] (dlt 9) 7500 (Hy2_2_tfft_vvfv p0 p1 p3) (OS2 true false false true p0 p1 false p3) = true := by
  cases p0 <;> cases p1 <;> cases p3 <;> kernel_rfl
theorem my2_2_ftft_vvtv (p0 p1 p3 : Bool) : mV [(7271, 7273)] (dlt 9) 7500 (Hy2_2_ftft_vvtv p0 p1 p3) (OS2 false true false true p0 p1 false p3) = true := by
  cases p0 <;> cases p1 <;> cases p3 <;> kernel_rfl
theorem my2_2_ftft_vvfv (p0 p1 p3 : Bool) : mV [(7169, 7170), (7256, 7257), (7271, 7274)] (dlt 9) 7500 (Hy2_2_ftft_vvfv p0 p1 p3) (OS2 false true false true p0 p1 false p3) = true := by
  cases p0 <;> cases p1 <;> cases p3 <;> kernel_rfl
theorem my2_2_ttft_vvtv (p0 p1 p3 : Bool) : mV [(7271, 7274)] (dlt 9) 7500 (Hy2_2_ttft_vvtv p0 p1 p3) (OS2 true true false true p0 p1 false p3) = true := by
  cases p0 <;> cases p1 <;> cases p3 <;> kernel_rfl
theorem my2_2_ttft_vvfv (p0 p1 p3 : Bool) : mV [(7169, 7170), (7256, 7257), (7271, 7275)] (dlt 9) 7500 (Hy2_2_ttft_vvfv p0 p1 p3) (OS2 true true false true p0 p1 false p3) = true := by
  cases p0 <;> cases p1 <;> cases p3 <;> kernel_rfl
theorem my2_2_fftt_vvtv (p0 p1 p3 : Bool) : mV [(7271, 7273)] (dlt 9) 7500 (Hy2_2_fftt_vvtv p0 p1 p3) (OS2 false false false true p0 p1 false p3) = true := by
  cases p0 <;> cases p1 <;> cases p3 <;> kernel_rfl
theorem my2_2_fftt_vvfv (p0 p1 p3 : Bool) : mV [(7169, 7170), (7256, 7257), (7271, 7274)] (dlt 9) 7500 (Hy2_2_fftt_vvfv p0 p1 p3) (OS2 false false false true p0 p1 false p3) = true := by
  cases p0 <;> cases p1 <;> cases p3 <;> kernel_rfl
theorem my2_2_tftt_vvtv (p0 p1 p3 : Bool) : mV [(7271, 7274)] (dlt 9) 7500 (Hy2_2_tftt_vvtv p0 p1 p3) (OS2 true false false true p0 p1 false p3) = true := by
  cases p0 <;> cases p1 <;> cases p3 <;> kernel_rfl
theorem my2_2_tftt_vvfv (p0 p1 p3 : Bool) : mV [(7169, 7170), (7256, 7257), (7271, 7275)] (dlt 9) 7500 (Hy2_2_tftt_vvfv p0 p1 p3) (OS2 true false false true p0 p1 false p3) = true := by
  cases p0 <;> cases p1 <;> cases p3 <;> kernel_rfl
theorem my2_2_fttt_vvtv (p0 p1 p3 : Bool) : mV [(7271, 7274)] (dlt 9) 7500 (Hy2_2_fttt_vvtv p0 p1 p3) (OS2 false true false true p0 p1 false p3) = true := by
  cases p0 <;> cases p1 <;> cases p3 <;> kernel_rfl
theorem my2_2_fttt_vvfv (p0 p1 p3 : Bool) : mV [(7169, 7170), (7256, 7257), (7271, 7275)] (dlt 9) 7500 (Hy2_2_fttt_vvfv p0 p1 p3) (OS2 false true false true p0 p1 false p3) = true := by
  cases p0 <;> cases p1 <;> cases p3 <;> kernel_rfl
theorem my2_2_tttt_vvtv (p0 p1 p3 : Bool) : mV [(7271, 7275)] (dlt 9) 7500 (Hy2_2_tttt_vvtv p0 p1 p3) (OS2 true true false true p0 p1 false p3) = true := by
  cases p0 <;> cases p1 <;> cases p3 <;> kernel_rfl
theorem my2_2_tttt_vvfv (p0 p1 p3 : Bool) : mV [(7169, 7170), (7256, 7257), (7271, 7276)] (dlt 9) 7500 (Hy2_2_tttt_vvfv p0 p1 p3) (OS2 true true false true p0 p1 false p3) = true := by
  cases p0 <;> cases p1 <;> cases p3 <;> kernel_rfl
theorem my2_1_ffff_vvvv (p0 p1 p2 p3 : Bool) : mV [] (dlt 9) 7120 (Hy2_1_ffff_vvvv p0 p1 p2 p3) (SS false false false false p0 p1 p2 p3) = true := by
  cases p0 <;> cases p1 <;> cases p2 <;> cases p3 <;> kernel_rfl
theorem my2_1_tfff_vvvv (p0 p1 p2 p3 : Bool) : mV [] (dlt 9) 7120 (Hy2_1_tfff_vvvv p0 p1 p2 p3) (SS true false false false p0 p1 p2 p3) = true := by
  cases p0 <;> cases p1 <;> cases p2 <;> cases p3 <;> kernel_rfl
theorem my2_1_ftff_vvvv (p0 p1 p2 p3 : Bool) : mV [] (dlt 9) 7120 (Hy2_1_ftff_vvvv p0 p1 p2 p3) (SS false true false false p0 p1 p2 p3) = true := by
  cases p0 <;> cases p1 <;> cases p2 <;> cases p3 <;> kernel_rfl
theorem my2_1_ttff_vvvv (p0 p1 p2 p3 : Bool) : mV [] (dlt 9) 7120 (Hy2_1_ttff_vvvv p0 p1 p2 p3) (SS true true false false p0 p1 p2 p3) = true := by
  cases p0 <;> cases p1 <;> cases p2 <;> cases p3 <;> kernel_rfl
theorem my2_1_fftf_vvvv (p0 p1 p2 p3 : Bool) : mV [] (dlt 9) 7120 (Hy2_1_fftf_vvvv p0 p1 p2 p3) (SS false false false false p0 p1 p2 p3) = true := by
  cases p0 <;> cases p1 <;> cases p2 <;> cases p3 <;> kernel_rfl
theorem my2_1_tftf_vvvv (p0 p1 p2 p3 : Bool) : mV [] (dlt 9) 7120 (Hy2_1_tftf_vvvv p0 p1 p2 p3) (SS true false false false p0 p1 p2 p3) = true := by
  cases p0 <;> cases p1 <;> cases p2 <;> cases p3 <;> kernel_rfl
theorem my2_1_fttf_vvvv (p0 p1 p2 p3 : Bool) : mV [] (dlt 9) 7120 (Hy2_1_fttf_vvvv p0 p1 p2 p3) (SS false true false false p0 p1 p2 p3) = true := by
  cases p0 <;> cases p1 <;> cases p2 <;> cases p3 <;> kernel_rfl
theorem my2_1_tttf_vvvv (p0 p1 p2 p3 : Bool) : mV [] (dlt 9) 7120 (Hy2_1_tttf_vvvv p0 p1 p2 p3) (SS true true false false p0 p1 p2 p3) = true := by
  cases p0 <;> cases p1 <;> cases p2 <;> cases p3 <;> kernel_rfl
theorem my2_1_ffft_vvvv (p0 p1 p2 p3 : Bool) : mV [] (dlt 9) 7120 (Hy2_1_ffft_vvvv p0 p1 p2 p3) (SS false false false true p0 p1 p2 p3) = true := by
  cases p0 <;> cases p1 <;> cases p2 <;> cases p3 <;> kernel_rfl
theorem my2_1_tfft_vvvv (p0 p1 p2 p3 : Bool) : mV [] (dlt 9) 7120 (Hy2_1_tfft_vvvv p0 p1 p2 p3) (SS true false false true p0 p1 p2 p3) = true := by
  cases p0 <;> cases p1 <;> cases p2 <;> cases p3 <;> kernel_rfl
theorem my2_1_ftft_vvvv (p0 p1 p2 p3 : Bool) : mV [] (dlt 9) 7120 (Hy2_1_ftft_vvvv p0 p1 p2 p3) (SS false true false true p0 p1 p2 p3) = true := by
  cases p0 <;> cases p1 <;> cases p2 <;> cases p3 <;> kernel_rfl
theorem my2_1_ttft_vvvv (p0 p1 p2 p3 : Bool) : mV [] (dlt 9) 7120 (Hy2_1_ttft_vvvv p0 p1 p2 p3) (SS true true false true p0 p1 p2 p3) = true := by
  cases p0 <;> cases p1 <;> cases p2 <;> cases p3 <;> kernel_rfl
theorem my2_1_fftt_vvvv (p0 p1 p2 p3 : Bool) : mV [] (dlt 9) 7120 (Hy2_1_fftt_vvvv p0 p1 p2 p3) (SS false false false true p0 p1 p2 p3) = true := by
  cases p0 <;> cases p1 <;> cases p2 <;> cases p3 <;> kernel_rfl
theorem my2_1_tftt_vvvv (p0 p1 p2 p3 : Bool) : mV [] (dlt 9) 7120 (Hy2_1_tftt_vvvv p0 p1 p2 p3) (SS true false false true p0 p1 p2 p3) = true := by
  cases p0 <;> cases p1 <;> cases p2 <;> cases p3 <;> kernel_rfl
theorem my2_1_fttt_vvvv (p0 p1 p2 p3 : Bool) : mV [] (dlt 9) 7120 (Hy2_1_fttt_vvvv p0 p1 p2 p3) (SS false true false true p0 p1 p2 p3) = true := by
  cases p0 <;> cases p1 <;> cases p2 <;> cases p3 <;> kernel_rfl
theorem my2_1_tttt_vvvv (p0 p1 p2 p3 : Bool) : mV [] (dlt 9) 7120 (Hy2_1_tttt_vvvv p0 p1 p2 p3) (SS true true false true p0 p1 p2 p3) = true := by
  cases p0 <;> cases p1 <;> cases p2 <;> cases p3 <;> kernel_rfl
theorem mz3_9_vvvf_vvvf (w0 w1 w2 p0 p1 p2 : Bool) : mV [] (dlt 3) 7120 (Hz3_9_vvvf_vvvf w0 w1 w2 p0 p1 p2) (SS w0 w1 w2 true p0 p1 p2 false) = true := by
  cases w0 <;> cases w1 <;> cases w2 <;> cases p0 <;> cases p1 <;> cases p2 <;> kernel_rfl
theorem mz3_9_vvvf_vvvt (w0 w1 w2 p0 p1 p2 : Bool) : mV [] (dlt 3) 7120 (Hz3_9_vvvf_vvvt w0 w1 w2 p0 p1 p2) (SS w0 w1 w2 true p0 p1 p2 true) = true := by
  cases w0 <;> cases w1 <;> cases w2 <;> cases p0 <;> cases p1 <;> cases p2 <;> kernel_rfl
theorem mz3_9_vvvt_vvvf (w0 w1 w2 p0 p1 p2 : Bool) : mV [] (dlt 3) 7120 (Hz3_9_vvvt_vvvf w0 w1 w2 p0 p1 p2) (SS w0 w1 w2 true p0 p1 p2 false) = true := by
  cases w0 <;> cases w1 <;> cases w2 <;> cases p0 <;> cases p1 <;> cases p2 <;> kernel_rfl
theorem mz3_9_vvvt_vvvt (w0 w1 w2 p0 p1 p2 : Bool) : mV [] (dlt 3) 7120 (Hz3_9_vvvt_vvvt w0 w1 w2 p0 p1 p2) (SS w0 w1 w2 true p0 p1 p2 true) = true := by
  cases w0 <;> cases w1 <;> cases w2 <;> cases p0 <;> cases p1 <;> cases p2 <;> kernel_rfl
theorem my3_2_ffff_vvvt (p0 p1 p2 : Bool) : mV [] (dlt 9) 7500 (Hy3_2_ffff_vvvt p0 p1 p2) (OS3 false false false false p0 p1 p2 false) = true := by
  cases p0 <;> cases p1 <;> cases p2 <;> kernel_rfl
theorem mo3_9_vvvf_vvvf (w0 w1 w2 p0 p1 p2 : Bool) : mV [(5744, 7271), (6081, 7792), (6211, 7847), (7042, 7730)] (dlt 3) 7120 (Ho3_9_vvvf_vvvf w0 w1 w2 p0 p1 p2) (SS w0 w1 w2 true p0 p1 p2 true) = true := by
  cases w0 <;> cases w1 <;> cases w2 <;> cases p0 <;> cases p1 <;> cases p2 <;> kernel_rfl
theorem my3_2_ffff_vvvf (p0 p1 p2 : Bool) : mV [(7169, 7170), (7256, 7257), (7271, 7272)] (dlt 9) 7500 (Hy3_2_ffff_vvvf p0 p1 p2) (OS3 false false false false p0 p1 p2 false) = true := by
  cases p0 <;> cases p1 <;> cases p2 <;> kernel_rfl
theorem my3_2_tfff_vvvt (p0 p1 p2 : Bool) : mV [(7271, 7272)] (dlt 9) 7500 (Hy3_2_tfff_vvvt p0 p1 p2) (OS3 true false false false p0 p1 p2 false) = true := by
  cases p0 <;> cases p1 <;> cases p2 <;> kernel_rfl
theorem my3_2_tfff_vvvf (p0 p1 p2 : Bool) : mV [(7169, 7170), (7256, 7257), (7271, 7273)] (dlt 9) 7500 (Hy3_2_tfff_vvvf p0 p1 p2) (OS3 true false false false p0 p1 p2 false) = true := by
  cases p0 <;> cases p1 <;> cases p2 <;> kernel_rfl
theorem my3_2_ftff_vvvt (p0 p1 p2 : Bool) : mV [(7271, 7272)] (dlt 9) 7500 (Hy3_2_ftff_vvvt p0 p1 p2) (OS3 false true false false p0 p1 p2 false) = true := by
  cases p0 <;> cases p1 <;> cases p2 <;> kernel_rfl
theorem my3_2_ftff_vvvf (p0 p1 p2 : Bool) : mV [(7169, 7170), (7256, 7257), (7271, 7273)] (dlt 9) 7500 (Hy3_2_ftff_vvvf p0 p1 p2) (OS3 false true false false p0 p1 p2 false) = true := by
  cases p0 <;> cases p1 <;> cases p2 <;> kernel_rfl
theorem my3_2_ttff_vvvt (p0 p1 p2 : Bool) : mV [(7271, 7273)] (dlt 9) 7500 (Hy3_2_ttff_vvvt p0 p1 p2) (OS3 true true false false p0 p1 p2 false) = true := by
  cases p0 <;> cases p1 <;> cases p2 <;> kernel_rfl
theorem my3_2_ttff_vvvf (p0 p1 p2 : Bool) : mV [(7169, 7170), (7256, 7257), (7271, 7274)] (dlt 9) 7500 (Hy3_2_ttff_vvvf p0 p1 p2) (OS3 true true false false p0 p1 p2 false) = true := by
  cases p0 <;> cases p1 <;> cases p2 <;> kernel_rfl
theorem my3_2_fftf_vvvt (p0 p1 p2 : Bool) : mV [(7271, 7272)] (dlt 9) 7500 (Hy3_2_fftf_vvvt p0 p1 p2) (OS3 false false true false p0 p1 p2 false) = true := by
  cases p0 <;> cases p1 <;> cases p2 <;> kernel_rfl
theorem my3_2_fftf_vvvf (p0 p1 p2 : Bool) : mV [(7169, 7170), (7256, 7257), (7271, 7273)] (dlt 9) 7500 (Hy3_2_fftf_vvvf p0 p1 p2) (OS3 false false true false p0 p1 p2 false) = true := by
  cases p0 <;> cases p1 <;> cases p2 <;> kernel_rfl
theorem my3_2_tftf_vvvt (p0 p1 p2 : Bool) : mV [(7271, 7273)] (dlt 9) 7500 (Hy3_2_tftf_vvvt p0 p1 p2) (OS3 true false true false p0 p1 p2 false) = true := by
  cases p0 <;> cases p1 <;> cases p2 <;> kernel_rfl
theorem my3_2_tftf_vvvf (p0 p1 p2 : Bool) : mV [(7169, 7170), (7256, 7257), (7271, 7274)] (dlt 9) 7500 (Hy3_2_tftf_vvvf p0 p1 p2) (OS3 true false true false p0 p1 p2 false) = true := by
  cases p0 <;> cases p1 <;> cases p2 <;> kernel_rfl
theorem my3_2_fttf_vvvt (p0 p1 p2 : Bool) : mV [(7271, 7273)] (dlt 9) 7500 (Hy3_2_fttf_vvvt p0 p1 p2) (OS3 false true true false p0 p1 p2 false) = true := by
  cases p0 <;> cases p1 <;> cases p2 <;> kernel_rfl
theorem my3_2_fttf_vvvf (p0 p1 p2 : Bool) : mV [(7169, 7170), (7256, 7257), (7271, 7274)] (dlt 9) 7500 (Hy3_2_fttf_vvvf p0 p1 p2) (OS3 false true true false p0 p1 p2 false) = true := by
  cases p0 <;> cases p1 <;> cases p2 <;> kernel_rfl
theorem my3_2_tttf_vvvt (p0 p1 p2 : Bool) : mV [(7271, 7274)] (dlt 9) 7500 (Hy3_2_tttf_vvvt p0 p1 p2) (OS3 true true true false p0 p1 p2 false) = true := by
  cases p0 <;> cases p1 <;> cases p2 <;> kernel_rfl
theorem my3_2_tttf_vvvf (p0 p1 p2 : Bool) : mV [(7169, 7170), (7256, 7257), (7271, 7275)] (dlt 9) 7500 (Hy3_2_tttf_vvvf p0 p1 p2) (OS3 true true true false p0 p1 p2 false) = true := by
  cases p0 <;> cases p1 <;> cases p2 <;> kernel_rfl
end Go.Proofs.YtmjogmpgamlhaaaGreat
