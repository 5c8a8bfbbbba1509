import Derived.Test.YtmjogmpgamlhaaaGreatWL0
import Derived.Test.YtmjogmpgamlhaaaGreatWK
set_option linter.unusedVariables false
set_option linter.unusedSimpArgs false
set_option linter.unusedSectionVars false
set_option maxRecDepth 100000
set_option maxHeartbeats 0
namespace Go.Proofs.YtmjogmpgamlhaaaGreat
open Go Go.Proofs.YtmjogmpgamlhaaaGreat.Dm Go.RowKit Go.Lib
theorem mz0_9_fvvv_fvvv (w1 w2 w3 p1 p2 p3 : Bool) : mV [] (dlt 0) 7120 (Hz0_9_fvvv_fvvv w1 w2 w3 p1 p2 p3) (SS true w1 w2 w3 false p1 p2 p3) = true := by
  cases w1 <;> cases w2 <;> cases w3 <;> cases p1 <;> cases p2 <;> cases p3 <;> kernel_rfl
theorem mz0_9_fvvv_tvvv (w1 w2 w3 p1 p2 p3 : Bool) : mV [] (dlt 0) 7120 (Hz0_9_fvvv_tvvv w1 w2 w3 p1 p2 p3) (SS true w1 w2 w3 true p1 p2 p3) = true := by
  cases w1 <;> cases w2 <;> cases w3 <;> cases p1 <;> cases p2 <;> cases p3 <;> kernel_rfl
theorem mz0_9_tvvv_fvvv (w1 w2 w3 p1 p2 p3 : Bool) : mV [] (dlt 0) 7120 (Hz0_9_tvvv_fvvv w1 w2 w3 p1 p2 p3) (SS true w1 w2 w3 false p1 p2 p3) = true := by
  cases w1 <;> cases w2 <;> cases w3 <;> cases p1 <;> cases p2 <;> cases p3 <;> kernel_rfl
theorem mz0_9_tvvv_tvvv (w1 w2 w3 p1 p2 p3 : Bool) : mV [] (dlt 0) 7120 (Hz0_9_tvvv_tvvv w1 w2 w3 p1 p2 p3) (SS true w1 w2 w3 true p1 p2 p3) = true := by
  cases w1 <;> cases w2 <;> cases w3 <;> cases p1 <;> cases p2 <;> cases p3 <;> kernel_rfl
theorem my0_2_ffff_tvvv (p1 p2 p3 : Bool) : mV [] (dlt 9) 7500 (Hy0_2_ffff_tvvv p1 p2 p3) (OS0 false false false false false p1 p2 p3) = true := by
  cases p1 <;> cases p2 <;> cases p3 <;> kernel_rfl
theorem mo0_9_fvvv_fvvv (w1 w2 w3 p1 p2 p3 : Bool) : mV [(5248, 7792), (5744, 7271), (6211, 7847), (7006, 7730)] (dlt 0) 7120 (Ho0_9_fvvv_fvvv w1 w2 w3 p1 p2 p3) (SS true w1 w2 w3 true p1 p2 p3) = true := by
  cases w1 <;> cases w2 <;> cases w3 <;> cases p1 <;> cases p2 <;> cases p3 <;> kernel_rfl
theorem my0_2_ffff_fvvv (p1 p2 p3 : Bool) : mV [(7169, 7170), (7256, 7257), (7271, 7272)] (dlt 9) 7500 (Hy0_2_ffff_fvvv p1 p2 p3) (OS0 false false false false false p1 p2 p3) = true := by
  cases p1 <;> cases p2 <;> cases p3 <;> kernel_rfl
theorem my0_2_tfff_tvvv (p1 p2 p3 : Bool) : mV [(7271, 7272)] (dlt 9) 7500 (Hy0_2_tfff_tvvv p1 p2 p3) (OS0 false false false false false p1 p2 p3) = true := by
  cases p1 <;> cases p2 <;> cases p3 <;> kernel_rfl
theorem my0_2_tfff_fvvv (p1 p2 p3 : Bool) : mV [(7169, 7170), (7256, 7257), (7271, 7273)] (dlt 9) 7500 (Hy0_2_tfff_fvvv p1 p2 p3) (OS0 false false false false false p1 p2 p3) = true := by
  cases p1 <;> cases p2 <;> cases p3 <;> kernel_rfl
theorem my0_2_ftff_tvvv (p1 p2 p3 : Bool) : mV [(7271, 7272)] (dlt 9) 7500 (Hy0_2_ftff_tvvv p1 p2 p3) (OS0 false true false false false p1 p2 p3) = true := by
  cases p1 <;> cases p2 <;> cases p3 <;> kernel_rfl
theorem my0_2_ftff_fvvv (p1 p2 p3 : Bool) : mV [(7169, 7170), (7256, 7257), (7271, 7273)] (dlt 9) 7500 (Hy0_2_ftff_fvvv p1 p2 p3) (OS0 false true false false false p1 p2 p3) = true := by
  cases p1 <;> cases p2 <;> cases p3 <;> kernel_rfl
theorem my0_2_ttff_tvvv (p1 p2 p3 : Bool) : mV [(7271, 7273)] (dlt 9) 7500 (Hy0_2_ttff_tvvv p1 p2 p3) (OS0 false true false false false p1 p2 p3) = true := by
  cases p1 <;> cases p2 <;> cases p3 <;> kernel_rfl
theorem my0_2_ttff_fvvv (p1 p2 p3 : Bool) : mV [(7169, 7170), (7256, 7257), (7271, 7274)] (dlt 9) 7500 (Hy0_2_ttff_fvvv p1 p2 p3) (OS0 false true false false false p1 p2 p3) = true := by
  cases p1 <;> cases p2 <;> cases p3 <;> kernel_rfl
theorem my0_2_fftf_tvvv (p1 p2 p3 : Bool) : mV [(7271, 7272)] (dlt 9) 7500 (Hy0_2_fftf_tvvv p1 p2 p3) (OS0 false false true false false p1 p2 p3) = true := by
  cases p1 <;> cases p2 <;> cases p3 <;> kernel_rfl
theorem my0_2_fftf_fvvv (p1 p2 p3 : Bool) : mV [(7169, 7170), (7256, 7257), (7271, 7273)] (dlt 9) 7500 (Hy0_2_fftf_fvvv p1 p2 p3) (OS0 false false true false false p1 p2 p3) = true := by
  cases p1 <;> cases p2 <;> cases p3 <;> kernel_rfl
theorem my0_2_tftf_tvvv (p1 p2 p3 : Bool) : mV [(7271, 7273)] (dlt 9) 7500 (Hy0_2_tftf_tvvv p1 p2 p3) (OS0 false false true false false p1 p2 p3) = true := by
  cases p1 <;> cases p2 <;> cases p3 <;> kernel_rfl
theorem my0_2_tftf_fvvv (p1 p2 p3 : Bool) : mV [(7169, 7170), (7256, 7257), (7271, 7274)] (dlt 9) 7500 (Hy0_2_tftf_fvvv p1 p2 p3) (OS0 false false true false false p1 p2 p3) = true := by
  cases p1 <;> cases p2 <;> cases p3 <;> kernel_rfl
theorem my0_2_fttf_tvvv (p1 p2 p3 : Bool) : mV [(7271, 7273)] (dlt 9) 7500 (Hy0_2_fttf_tvvv p1 p2 p3) (OS0 false true true false false p1 p2 p3) = true := by
  cases p1 <;> cases p2 <;> cases p3 <;> kernel_rfl
theorem my0_2_fttf_fvvv (p1 p2 p3 : Bool) : mV [(7169, 7170), (7256, 7257), (7271, 7274)] (dlt 9) 7500 (Hy0_2_fttf_fvvv p1 p2 p3) (OS0 false true true false false p1 p2 p3) = true := by
  cases p1 <;> cases p2 <;> cases p3 <;> kernel_rfl
theorem my0_2_tttf_tvvv (p1 p2 p3 : Bool) : mV [(7271, 7274)] (dlt 9) 7500 (Hy0_2_tttf_tvvv p1 p2 p3) (OS0 false true true false false p1 p2 p3) = true := by
  cases p1 <;> cases p2 <;> cases p3 <;> kernel_rfl
theorem my0_2_tttf_fvvv (p1 p2 p3 : Bool) : mV [(7169, 7170), (7256, 7257), (7271, 7275)] (dlt 9) 7500 (Hy0_2_tttf_fvvv p1 p2 p3) (OS0 false true true false false p1 p2 p3) = true := by
  cases p1 <;> cases p2 <;> cases p3 <;> kernel_rfl
theorem my0_2_ffft_tvvv (p1 p2 p3 : Bool) : mV [(7271, 7272)] (dlt 9) 7500 (Hy0_2_ffft_tvvv p1 p2 p3) (OS0 false false false true false p1 p2 p3) = true := by
  cases p1 <;> cases p2 <;> cases p3 <;> kernel_rfl
theorem my0_2_ffft_fvvv (p1 p2 p3 : Bool) : mV [(7169, 7170), (7256, 7257), (7271, 7273)] (dlt 9) 7500 (Hy0_2_ffft_fvvv p1 p2 p3) (OS0 false false false true false p1 p2 p3) = true := by
  cases p1 <;> cases p2 <;> cases p3 <;> kernel_rfl
theorem my0_2_tfft_tvvv (p1 p2 p3 : Bool) : mV [(7271, 7273)] (dlt 9) 7500 (Hy0_2_tfft_tvvv p1 p2 p3) (OS0 false false false true false p1 p2 p3) = true := by
  cases p1 <;> cases p2 <;> cases p3 <;> kernel_rfl
theorem my0_2_tfft_fvvv (p1 p2 p3 : Bool) : mV [(7169, 7170), (7256, 7257), (7271, 7274)] (dlt 9) 7500 (Hy0_2_tfft_fvvv p1 p2 p3) (OS0 false false false true false p1 p2 p3) = true := by
  cases p1 <;> cases p2 <;> cases p3 <;> kernel_rfl
theorem my0_2_ftft_tvvv (p1 p2 p3 : Bool) : mV [(7271, 7273)] (dlt 9) 7500 (Hy0_2_ftft_tvvv p1 p2 p3) (OS0 false true false true false p1 p2 p3) = true := by
  cases p1 <;> cases p2 <;> cases p3 <;> kernel_rfl
theorem my0_2_ftft_fvvv (p1 p2 p3 : Bool) : mV [(7169, 7170), (7256, 7257), (7271, 7274)] (dlt 9) 7500 (Hy0_2_ftft_fvvv p1 p2 p3) (OS0 false true false true false p1 p2 p3) = true := by
  cases p1 <;> cases p2 <;> cases p3 <;> kernel_rfl
theorem my0_2_ttft_tvvv (p1 p2 p3 : Bool) : mV [(7271, 7274)] (dlt 9) 7500 (Hy0_2_ttft_tvvv p1 p2 p3) (OS0 false true false true false p1 p2 p3) = true := by
  cases p1 <;> cases p2 <;> cases p3 <;> kernel_rfl
theorem my0_2_ttft_fvvv (p1 p2 p3 : Bool) : mV [(7169, 7170), (7256, 7257), (7271, 7275)] (dlt 9) 7500 (Hy0_2_ttft_fvvv p1 p2 p3) (OS0 false true false true false p1 p2 p3) = true := by
  cases p1 <;> cases p2 <;> cases p3 <;> kernel_rfl
theorem my0_2_fftt_tvvv (p1 p2 p3 : Bool) : mV [(7271, 7273)] (dlt 9) 7500 (Hy0_2_fftt_tvvv p1 p2 p3) (OS0 false false true true false p1 p2 p3) = true := by
  cases p1 <;> cases p2 <;> cases p3 <;> kernel_rfl
theorem my0_2_fftt_fvvv (p1 p2 p3 : Bool) : mV [(7169, 7170), (7256, 7257), (7271, 7274)] (dlt 9) 7500 (Hy0_2_fftt_fvvv p1 p2 p3) (OS0 false false true true false p1 p2 p3) = true := by
  cases p1 <;> cases p2 <;> cases p3 <;> kernel_rfl
theorem my0_2_tftt_tvvv (p1 p2 p3 : Bool) : mV [(7271, 7274)] (dlt 9) 7500 (Hy0_2_tftt_tvvv p1 p2 p3) (OS0 false false true true false p1 p2 p3) = true := by
  cases p1 <;> cases p2 <;> cases p3 <;> kernel_rfl
theorem my0_2_tftt_fvvv (p1 p2 p3 : Bool) : mV [(7169, 7170), (7256, 7257), (7271, 7275)] (dlt 9) 7500 (Hy0_2_tftt_fvvv p1 p2 p3) (OS0 false false true true false p1 p2 p3) = true := by
  cases p1 <;> cases p2 <;> cases p3 <;> kernel_rfl
theorem my0_2_fttt_tvvv (p1 p2 p3 : Bool) : mV [(7271, 7274)] (dlt 9) 7500 (Hy0_2_fttt_tvvv p1 p2 p3) (OS0 false true true true false p1 p2 p3) = true := by
  cases p1 <;> cases p2 <;> cases p3 <;> kernel_rfl
theorem my0_2_fttt_fvvv (p1 p2 p3 : Bool) : mV [(7169, 7170), (7256, 7257), (7271, 7275)] (dlt 9) 7500 (Hy0_2_fttt_fvvv p1 p2 p3) (OS0 false true true true false p1 p2 p3) = true := by
  cases p1 <;> cases p2 <;> cases p3 <;> kernel_rfl
theorem my0_2_tttt_tvvv (p1 p2 p3 : Bool) : mV [(7271, 7275)] (dlt 9) 7500 (Hy0_2_tttt_tvvv p1 p2 p3) (OS0 false true true true false p1 p2 p3) = true := by
  cases p1 <;> cases p2 <;> cases p3 <;> kernel_rfl
theorem my0_2_tttt_fvvv (p1 p2 p3 : Bool) : mV [(7169, 7170), (7256, 7257), (7271, 7276)] (dlt 9) 7500 (Hy0_2_tttt_fvvv p1 p2 p3) (OS0 false true true true false p1 p2 p3) = true := by
  cases p1 <;> cases p2 <;> cases p3 <;> kernel_rfl
theorem my0_1_ffff_vvvv (p0 p1 p2 p3 : Bool) : mV [] (dlt 9) 7120 (Hy0_1_ffff_vvvv p0 p1 p2 p3) (SS false false false false p0 p1 p2 p3) = true := by
  cases p0 <;> cases p1 <;> cases p2 <;> cases p3 <;> kernel_rfl
theorem my0_1_tfff_vvvv (p0 p1 p2 p3 : Bool) : mV [] (dlt 9) 7120 (Hy0_1_tfff_vvvv p0 p1 p2 p3) (SS false false false false p0 p1 p2 p3) = true := by
  cases p0 <;> cases p1 <;> cases p2 <;> cases p3 <;> kernel_rfl
theorem my0_1_ftff_vvvv (p0 p1 p2 p3 : Bool) : mV [] (dlt 9) 7120 (Hy0_1_ftff_vvvv p0 p1 p2 p3) (SS false true false false p0 p1 p2 p3) = true := by
  cases p0 <;> cases p1 <;> cases p2 <;> cases p3 <;> kernel_rfl
theorem my0_1_ttff_vvvv (p0 p1 p2 p3 : Bool) : mV [] (dlt 9) 7120 (Hy0_1_ttff_vvvv p0 p1 p2 p3) (SS false true false false p0 p1 p2 p3) = true := by
  cases p0 <;> cases p1 <;> cases p2 <;> cases p3 <;> kernel_rfl
theorem my0_1_fftf_vvvv (p0 p1 p2 p3 : Bool) : mV [] (dlt 9) 7120 (Hy0_1_fftf_vvvv p0 p1 p2 p3) (SS false false true false p0 p1 p2 p3) = true := by
  cases p0 <;> cases p1 <;> cases p2 <;> cases p3 <;> kernel_rfl
theorem my0_1_tftf_vvvv (p0 p1 p2 p3 : Bool) : mV [] (dlt 9) 7120 (Hy0_1_tftf_vvvv p0 p1 p2 p3) (SS false false true false p0 p1 p2 p3) = true := by
  cases p0 <;> cases p1 <;> cases p2 <;> cases p3 <;> kernel_rfl
theorem my0_1_fttf_vvvv (p0 p1 p2 p3 : Bool) : mV [] (dlt 9) 7120 (Hy0_1_fttf_vvvv p0 p1 p2 p3) (SS false true true false p0 p1 p2 p3) = true := by
  cases p0 <;> cases p1 <;> cases p2 <;> cases p3 <;> kernel_rfl
theorem my0_1_tttf_vvvv (p0 p1 p2 p3 : Bool) : mV [] (dlt 9) 7120 (Hy0_1_tttf_vvvv p0 p1 p2 p3) (SS false true true false p0 p1 p2 p3) = true := by
  cases p0 <;> cases p1 <;> cases p2 <;> cases p3 <;> kernel_rfl
theorem my0_1_ffft_vvvv (p0 p1 p2 p3 : Bool) : mV [] (dlt 9) 7120 (Hy0_1_ffft_vvvv p0 p1 p2 p3) (SS false false false true p0 p1 p2 p3) = true := by
  cases p0 <;> cases p1 <;> cases p2 <;> cases p3 <;> kernel_rfl
theorem my0_1_tfft_vvvv (p0 p1 p2 p3 : Bool) : mV [] (dlt 9) 7120 (Hy0_1_tfft_vvvv p0 p1 p2 p3) (SS false false false true p0 p1 p2 p3) = true := by
  cases p0 <;> cases p1 <;> cases p2 <;> cases p3 <;> kernel_rfl
theorem my0_1_ftft_vvvv (p0 p1 p2 p3 : Bool) : mV [] (dlt 9) 7120 (Hy0_1_ftft_vvvv p0 p1 p2 p3) (SS false true false true p0 p1 p2 p3) = true := by
  cases p0 <;> cases p1 <;> cases p2 <;> cases p3 <;> kernel_rfl
theorem my0_1_ttft_vvvv (p0 p1 p2 p3 : Bool) : mV [] (dlt 9) 7120 (Hy0_1_ttft_vvvv p0 p1 p2 p3) (SS false true false true p0 p1 p2 p3) = true := by
  cases p0 <;> cases p1 <;> cases p2 <;> cases p3 <;> kernel_rfl
theorem my0_1_fftt_vvvv (p0 p1 p2 p3 : Bool) : mV [] (dlt 9) 7120 (Hy0_1_fftt_vvvv p0 p1 p2 p3) (SS false false true true p0 p1 p2 p3) = true := by
  cases p0 <;> cases p1 <;> cases p2 <;> cases p3 <;> kernel_rfl
theorem my0_1_tftt_vvvv (p0 p1 p2 p3 : Bool) : mV [] (dlt 9) 7120 (Hy0_1_tftt_vvvv p0 p1 p2 p3) (SS false false true true p0 p1 p2 p3) = true := by
  cases p0 <;> cases p1 <;> cases p2 <;> cases p3 <;> kernel_rfl
theorem my0_1_fttt_vvvv (p0 p1 p2 p3 : Bool) : mV [] (dlt 9) 7120 (Hy0_1_fttt_vvvv p0 p1 p2 p3) (SS false true true true p0 p1 p2 p3) = true := by
  cases p0 <;> cases p1 <;> cases p2 <;> cases p3 <;> kernel_rfl
theorem my0_1_tttt_vvvv (p0 p1 p2 p3 : Bool) : mV [] (dlt 9) 7120 (Hy0_1_tttt_vvvv p0 p1 p2 p3) (SS false true true true p0 p1 p2 p3) = true := by
  cases p0 <;> cases p1 <;> cases p2 <;> cases p3 <;> kernel_rfl
theorem mz1_9_vfvv_vfvv (w0 w2 w3 p0 p2 p3 : Bool) : mV [] (dlt 1) 7120 (Hz1_9_vfvv_vfvv w0 w2 w3 p0 p2 p3) (SS w0 true w2 w3 p0 false p2 p3) = true := by
  cases w0 <;> cases w2 <;> cases w3 <;> cases p0 <;> cases p2 <;> cases p3 <;> kernel_rfl
theorem mz1_9_vfvv_vtvv (w0 w2 w3 p0 p2 p3 : Bool) : mV [] (dlt 1) 7120 (Hz1_9_vfvv_vtvv w0 w2 w3 p0 p2 p3) (SS w0 true w2 w3 p0 true p2 p3) = true := by
  cases w0 <;> cases w2 <;> cases w3 <;> cases p0 <;> cases p2 <;> cases p3 <;> kernel_rfl
theorem mz1_9_vtvv_vfvv (w0 w2 w3 p0 p2 p3 : Bool) : mV [] (dlt 1) 7120 (Hz1_9_vtvv_vfvv w0 w2 w3 p0 p2 p3) (SS w0 true w2 w3 p0 false p2 p3) = true := by
  cases w0 <;> cases w2 <;> cases w3 <;> cases p0 <;> cases p2 <;> cases p3 <;> kernel_rfl
theorem mz1_9_vtvv_vtvv (w0 w2 w3 p0 p2 p3 : Bool) : mV [] (dlt 1) 7120 (Hz1_9_vtvv_vtvv w0 w2 w3 p0 p2 p3) (SS w0 true w2 w3 p0 true p2 p3) = true := by
  cases w0 <;> cases w2 <;> cases w3 <;> cases p0 <;> cases p2 <;> cases p3 <;> kernel_rfl
theorem my1_2_ffff_vtvv (p0 p2 p3 : Bool) : mV [] (dlt 9) 7500 (Hy1_2_ffff_vtvv p0 p2 p3) (OS1 false false false false p0 false p2 p3) = true := by
  cases p0 <;> cases p2 <;> cases p3 <;> kernel_rfl
theorem mo1_9_vfvv_vfvv (w0 w2 w3 p0 p2 p3 : Bool) : mV [(5525, 7792), (5744, 7271), (6211, 7847), (7018, 7730)] (dlt 1) 7120 (Ho1_9_vfvv_vfvv w0 w2 w3 p0 p2 p3) (SS w0 true w2 w3 p0 true p2 p3) = true := by
  cases w0 <;> cases w2 <;> cases w3 <;> cases p0 <;> cases p2 <;> cases p3 <;> kernel_rfl
theorem my1_2_ffff_vfvv (p0 p2 p3 : Bool) : mV [(7169, 7170), (7256, 7257), (7271, 7272)] (dlt 9) 7500 (Hy1_2_ffff_vfvv p0 p2 p3) (OS1 false false false false p0 false p2 p3) = true := by
  cases p0 <;> cases p2 <;> cases p3 <;> kernel_rfl
end Go.Proofs.YtmjogmpgamlhaaaGreat
