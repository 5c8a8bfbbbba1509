import Derived.Test.YtmjogmpgamlhaaaGreatWL0
import Derived.Test.YtmjogmpgamlhaaaGreatWK
set_option linter.unusedVariables false
set_option linter.unusedSimpArgs false
set_option linter.unusedSectionVars false
set_option maxRecDepth 100000
set_option maxHeartbeats 0
namespace Go.Proofs.YtmjogmpgamlhaaaGreat
open Go Go.Proofs.YtmjogmpgamlhaaaGreat.Dm Go.RowKit Go.Lib
theorem my1_2_tfff_vtvv (p0 p2 p3 : Bool) : mV [(7271, 7272)] (dlt 9) 7500 (Hy1_2_tfff_vtvv p0 p2 p3) (OS1 true false false false p0 false p2 p3) = true := by
  cases p0 <;> cases p2 <;> cases p3 <;> kernel_rfl
theorem my1_2_tfff_vfvv (p0 p2 p3 : Bool) : mV [(7169, 7170), (7256, 7257), (7271, 7273)] (dlt 9) 7500 (Hy1_2_tfff_vfvv p0 p2 p3) (OS1 true false false false p0 false p2 p3) = true := by
  cases p0 <;> cases p2 <;> cases p3 <;> kernel_rfl
theorem my1_2_ftff_vtvv (p0 p2 p3 : Bool) : mV [(7271, 7272)] (dlt 9) 7500 (Hy1_2_ftff_vtvv p0 p2 p3) (OS1 false false false false p0 false p2 p3) = true := by
  cases p0 <;> cases p2 <;> cases p3 <;> kernel_rfl
theorem my1_2_ftff_vfvv (p0 p2 p3 : Bool) : mV [(7169, 7170), (7256, 7257), (7271, 7273)] (dlt 9) 7500 (Hy1_2_ftff_vfvv p0 p2 p3) (OS1 false false false false p0 false p2 p3) = true := by
  cases p0 <;> cases p2 <;> cases p3 <;> kernel_rfl
theorem my1_2_ttff_vtvv (p0 p2 p3 : Bool) : mV [(7271, 7273)] (dlt 9) 7500 (Hy1_2_ttff_vtvv p0 p2 p3) (OS1 true false false false p0 false p2 p3) = true := by
  cases p0 <;> cases p2 <;> cases p3 <;> kernel_rfl
theorem my1_2_ttff_vfvv (p0 p2 p3 : Bool) : mV [(7169, 7170), (7256, 7257), (7271, 7274)] (dlt 9) 7500 (Hy1_2_ttff_vfvv p0 p2 p3) (OS1 true false false false p0 false p2 p3) = true := by
  cases p0 <;> cases p2 <;> cases p3 <;> kernel_rfl
theorem my1_2_fftf_vtvv (p0 p2 p3 : Bool) : mV [(7271, 7272)] (dlt 9) 7500 (Hy1_2_fftf_vtvv p0 p2 p3) (OS1 false false true false p0 false p2 p3) = true := by
  cases p0 <;> cases p2 <;> cases p3 <;> kernel_rfl
theorem my1_2_fftf_vfvv (p0 p2 p3 : Bool) : mV [(7169, 7170), (7256, 7257), (7271, 7273)] (dlt 9) 7500 (Hy1_2_fftf_vfvv p0 p2 p3) (OS1 false false true false p0 false p2 p3) = true := by
  cases p0 <;> cases p2 <;> cases p3 <;> kernel_rfl
theorem my1_2_tftf_vtvv (p0 p2 p3 : Bool) : mV [(7271, 7273)] (dlt 9) 7500 (Hy1_2_tftf_vtvv p0 p2 p3) (OS1 true false true false p0 false p2 p3) = true := by
  cases p0 <;> cases p2 <;> cases p3 <;> kernel_rfl
theorem my1_2_tftf_vfvv (p0 p2 p3 : Bool) : mV [(7169, 7170), (7256, 7257), (7271, 7274)] (dlt 9) 7500 (Hy1_2_tftf_vfvv p0 p2 p3) (OS1 true false true false p0 false p2 p3) = true := by
  cases p0 <;> cases p2 <;> cases p3 <;> kernel_rfl
theorem my1_2_fttf_vtvv (p0 p2 p3 : Bool) : mV [(7271, 7273)] (dlt 9) 7500 (Hy1_2_fttf_vtvv p0 p2 p3) (OS1 false false true false p0 false p2 p3) = true := by
  cases p0 <;> cases p2 <;> cases p3 <;> kernel_rfl
theorem my1_2_fttf_vfvv (p0 p2 p3 : Bool) : mV [(7169, 7170), (7256, 7257), (7271, 7274)] (dlt 9) 7500 (Hy1_2_fttf_vfvv p0 p2 p3) (OS1 false false true false p0 false p2 p3) = true := by
  cases p0 <;> cases p2 <;> cases p3 <;> kernel_rfl
theorem my1_2_tttf_vtvv (p0 p2 p3 : Bool) : mV [(7271, 7274)] (dlt 9) 7500 (Hy1_2_tttf_vtvv p0 p2 p3) (OS1 true false true false p0 false p2 p3) = true := by
  cases p0 <;> cases p2 <;> cases p3 <;> kernel_rfl
theorem my1_2_tttf_vfvv (p0 p2 p3 : Bool) : mV [(7169, 7170), (7256, 7257), (7271, 7275)] (dlt 9) 7500 (Hy1_2_tttf_vfvv p0 p2 p3) (OS1 true false true false p0 false p2 p3) = true := by
  cases p0 <;> cases p2 <;> cases p3 <;> kernel_rfl
theorem my1_2_ffft_vtvv (p0 p2 p3 : Bool) : mV [(7271, 7272)] (dlt 9) 7500 (Hy1_2_ffft_vtvv p0 p2 p3) (OS1 false false false true p0 false p2 p3) = true := by
  cases p0 <;> cases p2 <;> cases p3 <;> kernel_rfl
theorem my1_2_ffft_vfvv (p0 p2 p3 : Bool) : mV [(7169, 7170), (7256, 7257), (7271, 7273)] (dlt 9) 7500 (Hy1_2_ffft_vfvv p0 p2 p3) (OS1 false false false true p0 false p2 p3) = true := by
  cases p0 <;> cases p2 <;> cases p3 <;> kernel_rfl
theorem my1_2_tfft_vtvv (p0 p2 p3 : Bool) : mV [(7271, 7273)] (dlt 9) 7500 (Hy1_2_tfft_vtvv p0 p2 p3) (OS1 true false false true p0 false p2 p3) = true := by
  cases p0 <;> cases p2 <;> cases p3 <;> kernel_rfl
theorem my1_2_tfft_vfvv (p0 p2 p3 : Bool) : mV [(7169, 7170), (7256, 7257), (7271, 7274)] (dlt 9) 7500 (Hy1_2_tfft_vfvv p0 p2 p3) (OS1 true false false true p0 false p2 p3) = true := by
  cases p0 <;> cases p2 <;> cases p3 <;> kernel_rfl
theorem my1_2_ftft_vtvv (p0 p2 p3 : Bool) : mV [(7271, 7273)] (dlt 9) 7500 (Hy1_2_ftft_vtvv p0 p2 p3) (OS1 false false false true p0 false p2 p3) = true := by
  cases p0 <;> cases p2 <;> cases p3 <;> kernel_rfl
theorem my1_2_ftft_vfvv (p0 p2 p3 : Bool) : mV [(7169, 7170), (7256, 7257), (7271, 7274)] (dlt 9) 7500 (Hy1_2_ftft_vfvv p0 p2 p3) (OS1 false false false true p0 false p2 p3) = true := by
  cases p0 <;> cases p2 <;> cases p3 <;> kernel_rfl
theorem my1_2_ttft_vtvv (p0 p2 p3 : Bool) : mV [(7271, 7274)] (dlt 9) 7500 (Hy1_2_ttft_vtvv p0 p2 p3) (OS1 true false false true p0 false p2 p3) = true := by
  cases p0 <;> cases p2 <;> cases p3 <;> kernel_rfl
theorem my1_2_ttft_vfvv (p0 p2 p3 : Bool) : mV [(7169, 7170), (7256, 7257), (7271, 7275)] (dlt 9) 7500 (Hy1_2_ttft_vfvv p0 p2 p3) (OS1 true false false true p0 false p2 p3) = true := by
  cases p0 <;> cases p2 <;> cases p3 <;> kernel_rfl
theorem my1_2_fftt_vtvv (p0 p2 p3 : Bool) : mV [(7271, 7273)] (dlt 9) 7500 (Hy1_2_fftt_vtvv p0 p2 p3) (OS1 false false true true p0 false p2 p3) = true := by
  cases p0 <;> cases p2 <;> cases p3 <;> kernel_rfl
theorem my1_2_fftt_vfvv (p0 p2 p3 : Bool) : mV [(7169, 7170), (7256, 7257), (7271, 7274)] (dlt 9) 7500 (Hy1_2_fftt_vfvv p0 p2 p3) (OS1 false false true true p0 false p2 p3) = true := by
  cases p0 <;> cases p2 <;> cases p3 <;> kernel_rfl
theorem my1_2_tftt_vtvv (p0 p2 p3 : Bool) : mV [(7271, 7274)] (dlt 9) 7500 (Hy1_2_tftt_vtvv p0 p2 p3) (OS1 true false true true p0 false p2 p3) = true := by
  cases p0 <;> cases p2 <;> cases p3 <;> kernel_rfl
theorem my1_2_tftt_vfvv (p0 p2 p3 : Bool) : mV [(7169, 7170), (7256, 7257), (7271, 7275)] (dlt 9) 7500 (Hy1_2_tftt_vfvv p0 p2 p3) (OS1 true false true true p0 false p2 p3) = true := by
  cases p0 <;> cases p2 <;> cases p3 <;> kernel_rfl
theorem my1_2_fttt_vtvv (p0 p2 p3 : Bool) : mV [(7271, 7274)] (dlt 9) 7500 (Hy1_2_fttt_vtvv p0 p2 p3) (OS1 false false true true p0 false p2 p3) = true := by
  cases p0 <;> cases p2 <;> cases p3 <;> kernel_rfl
theorem my1_2_fttt_vfvv (p0 p2 p3 : Bool) : mV [(7169, 7170), (7256, 7257), (7271, 7275)] (dlt 9) 7500 (Hy1_2_fttt_vfvv p0 p2 p3) (OS1 false false true true p0 false p2 p3) = true := by
  cases p0 <;> cases p2 <;> cases p3 <;> kernel_rfl
theorem my1_2_tttt_vtvv (p0 p2 p3 : Bool) : mV [(7271, 7275)] (dlt 9) 7500 (Hy1_2_tttt_vtvv p0 p2 p3) (OS1 true false true true p0 false p2 p3) = true := by
  cases p0 <;> cases p2 <;> cases p3 <;> kernel_rfl
theorem my1_2_tttt_vfvv (p0 p2 p3 : Bool) : mV [(7169, 7170), (7256, 7257), (7271, 7276)] (dlt 9) 7500 (Hy1_2_tttt_vfvv p0 p2 p3) (OS1 true false true true p0 false p2 p3) = true := by
  cases p0 <;> cases p2 <;> cases p3 <;> kernel_rfl
theorem my1_1_ffff_vvvv (p0 p1 p2 p3 : Bool) : mV [] (dlt 9) 7120 (Hy1_1_ffff_vvvv p0 p1 p2 p3) (SS false false false false p0 p1 p2 p3) = true := by
  cases p0 <;> cases p1 <;> cases p2 <;> cases p3 <;> kernel_rfl
theorem my1_1_tfff_vvvv (p0 p1 p2 p3 : Bool) : mV [] (dlt 9) 7120 (Hy1_1_tfff_vvvv p0 p1 p2 p3) (SS true false false false p0 p1 p2 p3) = true := by
  cases p0 <;> cases p1 <;> cases p2 <;> cases p3 <;> kernel_rfl
theorem my1_1_ftff_vvvv (p0 p1 p2 p3 : Bool) : mV [] (dlt 9) 7120 (Hy1_1_ftff_vvvv p0 p1 p2 p3) (SS false false false false p0 p1 p2 p3) = true := by
  cases p0 <;> cases p1 <;> cases p2 <;> cases p3 <;> kernel_rfl
theorem my1_1_ttff_vvvv (p0 p1 p2 p3 : Bool) : mV [] (dlt 9) 7120 (Hy1_1_ttff_vvvv p0 p1 p2 p3) (SS true false false false p0 p1 p2 p3) = true := by
  cases p0 <;> cases p1 <;> cases p2 <;> cases p3 <;> kernel_rfl
theorem my1_1_fftf_vvvv (p0 p1 p2 p3 : Bool) : mV [] (dlt 9) 7120 (Hy1_1_fftf_vvvv p0 p1 p2 p3) (SS false false true false p0 p1 p2 p3) = true := by
  cases p0 <;> cases p1 <;> cases p2 <;> cases p3 <;> kernel_rfl
theorem my1_1_tftf_vvvv (p0 p1 p2 p3 : Bool) : mV [] (dlt 9) 7120 (Hy1_1_tftf_vvvv p0 p1 p2 p3) (SS true false true false p0 p1 p2 p3) = true := by
  cases p0 <;> cases p1 <;> cases p2 <;> cases p3 <;> kernel_rfl
theorem my1_1_fttf_vvvv (p0 p1 p2 p3 : Bool) : mV [] (dlt 9) 7120 (Hy1_1_fttf_vvvv p0 p1 p2 p3) (SS false false true false p0 p1 p2 p3) = true := by
  cases p0 <;> cases p1 <;> cases p2 <;> cases p3 <;> kernel_rfl
theorem my1_1_tttf_vvvv (p0 p1 p2 p3 : Bool) : mV [] (dlt 9) 7120 (Hy1_1_tttf_vvvv p0 p1 p2 p3) (SS true false true false p0 p1 p2 p3) = true := by
  cases p0 <;> cases p1 <;> cases p2 <;> cases p3 <;> kernel_rfl
theorem my1_1_ffft_vvvv (p0 p1 p2 p3 : Bool) : mV [] (dlt 9) 7120 (Hy1_1_ffft_vvvv p0 p1 p2 p3) (SS false false false true p0 p1 p2 p3) = true := by
  cases p0 <;> cases p1 <;> cases p2 <;> cases p3 <;> kernel_rfl
theorem my1_1_tfft_vvvv (p0 p1 p2 p3 : Bool) : mV [] (dlt 9) 7120 (Hy1_1_tfft_vvvv p0 p1 p2 p3) (SS true false false true p0 p1 p2 p3) = true := by
  cases p0 <;> cases p1 <;> cases p2 <;> cases p3 <;> kernel_rfl
theorem my1_1_ftft_vvvv (p0 p1 p2 p3 : Bool) : mV [] (dlt 9) 7120 (Hy1_1_ftft_vvvv p0 p1 p2 p3) (SS false false false true p0 p1 p2 p3) = true := by
  cases p0 <;> cases p1 <;> cases p2 <;> cases p3 <;> kernel_rfl
theorem my1_1_ttft_vvvv (p0 p1 p2 p3 : Bool) : mV [] (dlt 9) 7120 (Hy1_1_ttft_vvvv p0 p1 p2 p3) (SS true false false true p0 p1 p2 p3) = true := by
  cases p0 <;> cases p1 <;> cases p2 <;> cases p3 <;> kernel_rfl
theorem my1_1_fftt_vvvv (p0 p1 p2 p3 : Bool) : mV [] (dlt 9) 7120 (Hy1_1_fftt_vvvv p0 p1 p2 p3) (SS false false true true p0 p1 p2 p3) = true := by
  cases p0 <;> cases p1 <;> cases p2 <;> cases p3 <;> kernel_rfl
theorem my1_1_tftt_vvvv (p0 p1 p2 p3 : Bool) : mV [] (dlt 9) 7120 (Hy1_1_tftt_vvvv p0 p1 p2 p3) (SS true false true true p0 p1 p2 p3) = true := by
  cases p0 <;> cases p1 <;> cases p2 <;> cases p3 <;> kernel_rfl
theorem my1_1_fttt_vvvv (p0 p1 p2 p3 : Bool) : mV [] (dlt 9) 7120 (Hy1_1_fttt_vvvv p0 p1 p2 p3) (SS false false true true p0 p1 p2 p3) = true := by
  cases p0 <;> cases p1 <;> cases p2 <;> cases p3 <;> kernel_rfl
theorem my1_1_tttt_vvvv (p0 p1 p2 p3 : Bool) : mV [] (dlt 9) 7120 (Hy1_1_tttt_vvvv p0 p1 p2 p3) (SS true false true true p0 p1 p2 p3) = true := by
  cases p0 <;> cases p1 <;> cases p2 <;> cases p3 <;> kernel_rfl
theorem mz2_9_vvfv_vvfv (w0 w1 w3 p0 p1 p3 : Bool) : mV [] (dlt 2) 7120 (Hz2_9_vvfv_vvfv w0 w1 w3 p0 p1 p3) (SS w0 w1 true w3 p0 p1 false p3) = true := by
  cases w0 <;> cases w1 <;> cases w3 <;> cases p0 <;> cases p1 <;> cases p3 <;> kernel_rfl
theorem mz2_9_vvfv_vvtv (w0 w1 w3 p0 p1 p3 : Bool) : mV [] (dlt 2) 7120 (Hz2_9_vvfv_vvtv w0 w1 w3 p0 p1 p3) (SS w0 w1 true w3 p0 p1 true p3) = true := by
  cases w0 <;> cases w1 <;> cases w3 <;> cases p0 <;> cases p1 <;> cases p3 <;> kernel_rfl
theorem mz2_9_vvtv_vvfv (w0 w1 w3 p0 p1 p3 : Bool) : mV [] (dlt 2) 7120 (Hz2_9_vvtv_vvfv w0 w1 w3 p0 p1 p3) (SS w0 w1 true w3 p0 p1 false p3) = true := by
  cases w0 <;> cases w1 <;> cases w3 <;> cases p0 <;> cases p1 <;> cases p3 <;> kernel_rfl
theorem mz2_9_vvtv_vvtv (w0 w1 w3 p0 p1 p3 : Bool) : mV [] (dlt 2) 7120 (Hz2_9_vvtv_vvtv w0 w1 w3 p0 p1 p3) (SS w0 w1 true w3 p0 p1 true p3) = true := by
  cases w0 <;> cases w1 <;> cases w3 <;> cases p0 <;> cases p1 <;> cases p3 <;> kernel_rfl
theorem my2_2_ffff_vvtv (p0 p1 p3 : Bool) : mV [] (dlt 9) 7500 (Hy2_2_ffff_vvtv p0 p1 p3) (OS2 false false false false p0 p1 false p3) = true := by
  cases p0 <;> cases p1 <;> cases p3 <;> kernel_rfl
theorem mo2_9_vvfv_vvfv (w0 w1 w3 p0 p1 p3 : Bool) : mV [(5744, 7271), (5804, 7792), (6211, 7847), (7030, 7730)] (dlt 2) 7120 (Ho2_9_vvfv_vvfv w0 w1 w3 p0 p1 p3) (SS w0 w1 true w3 p0 p1 true p3) = true := by
  cases w0 <;> cases w1 <;> cases w3 <;> cases p0 <;> cases p1 <;> cases p3 <;> kernel_rfl
theorem my2_2_ffff_vvfv (p0 p1 p3 : Bool) : mV [(7169, 7170), (7256, 7257), (7271, 7272)] (dlt 9) 7500 (Hy2_2_ffff_vvfv p0 p1 p3) (OS2 false false false false p0 p1 false p3) = true := by
  cases p0 <;> cases p1 <;> cases p3 <;> kernel_rfl
theorem my2_2_tfff_vvtv (p0 p1 p3 : Bool) : mV [(7271, 7272)] (dlt 9) 7500 (Hy2_2_tfff_vvtv p0 p1 p3) (OS2 true false false false p0 p1 false p3) = true := by
  cases p0 <;> cases p1 <;> cases p3 <;> kernel_rfl
theorem my2_2_tfff_vvfv (p0 p1 p3 : Bool) : mV [(7169, 7170), (7256, 7257), (7271, 7273)] (dlt 9) 7500 (Hy2_2_tfff_vvfv p0 p1 p3) (OS2 true false false false p0 p1 false p3) = true := by
  cases p0 <;> cases p1 <;> cases p3 <;> kernel_rfl
theorem my2_2_ftff_vvtv (p0 p1 p3 : Bool) : mV [(7271, 7272)] (dlt 9) 7500 (Hy2_2_ftff_vvtv p0 p1 p3) (OS2 false true false false p0 p1 false p3) = true := by
  cases p0 <;> cases p1 <;> cases p3 <;> kernel_rfl
theorem my2_2_ftff_vvfv (p0 p1 p3 : Bool) : mV [(7169, 7170), (7256, 7257), (7271, 7273)] (dlt 9) 7500 (Hy2_2_ftff_vvfv p0 p1 p3) (OS2 false true false false p0 p1 false p3) = true := by
  cases p0 <;> cases p1 <;> cases p3 <;> kernel_rfl
theorem my2_2_ttff_vvtv (p0 p1 p3 : Bool) : mV [(7271, 7273)] (dlt 9) 7500 (Hy2_2_ttff_vvtv p0 p1 p3) (OS2 true true false false p0 p1 false p3) = true := by
  cases p0 <;> cases p1 <;> cases p3 <;> kernel_rfl
theorem my2_2_ttff_vvfv (p0 p1 p3 : Bool) : mV [(7169, 7170), (7256, 7257), (7271, 7274)] (dlt 9) 7500 (Hy2_2_ttff_vvfv p0 p1 p3) (OS2 true true false false p0 p1 false p3) = true := by
  cases p0 <;> cases p1 <;> cases p3 <;> kernel_rfl
theorem my2_2_fftf_vvtv (p0 p1 p3 : Bool) : mV [(7271, 7272)] (dlt 9) 7500 (Hy2_2_fftf_vvtv p0 p1 p3) (OS2 false false false false p0 p1 false p3) = true := by
  cases p0 <;> cases p1 <;> cases p3 <;> kernel_rfl
end Go.Proofs.YtmjogmpgamlhaaaGreat
