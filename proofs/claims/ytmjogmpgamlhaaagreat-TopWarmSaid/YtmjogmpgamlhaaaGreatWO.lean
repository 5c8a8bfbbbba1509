/- Every step of the loop's body. -/
import Derived.Test.YtmjogmpgamlhaaaGreatWK
import Derived.Test.YtmjogmpgamlhaaaGreatWMD0
import Derived.Test.YtmjogmpgamlhaaaGreatWR0
import Derived.Test.YtmjogmpgamlhaaaGreatWR1
import Derived.Test.YtmjogmpgamlhaaaGreatWR1b
import Derived.Test.YtmjogmpgamlhaaaGreatWR2
import Derived.Test.YtmjogmpgamlhaaaGreatWR2b
import Derived.Test.YtmjogmpgamlhaaaGreatWR3
import Derived.Test.YtmjogmpgamlhaaaGreatWR3b
import Derived.Test.YtmjogmpgamlhaaaGreatWR4
import Derived.Test.YtmjogmpgamlhaaaGreatWR4b
import Derived.Test.YtmjogmpgamlhaaaGreatWR5
import Derived.Test.YtmjogmpgamlhaaaGreatWV0
import Derived.Test.YtmjogmpgamlhaaaGreatWV1
import Derived.Test.YtmjogmpgamlhaaaGreatWV2
import Derived.Test.YtmjogmpgamlhaaaGreatWV3
import Derived.Test.YtmjogmpgamlhaaaGreatWX
set_option linter.unusedVariables false
set_option linter.unusedSimpArgs false
set_option linter.unusedSectionVars false
set_option maxRecDepth 100000
set_option maxHeartbeats 0
namespace Go.Proofs.YtmjogmpgamlhaaaGreat
open Go Go.Proofs.YtmjogmpgamlhaaaGreat.Dm Go.RowKit Go.Lib
theorem yo4 (w0 w1 w2 w3 p0 p1 p2 p3 : Bool) (K : AV) : rY 4 K (SS w0 w1 w2 w3 p0 p1 p2 p3) Lall (SS w0 w1 w2 w3 p0 p1 p2 p3) := by intro _ _ _; kernel_rfl
theorem yo5 (w0 w1 w2 w3 p0 p1 p2 p3 : Bool) (K : AV) : rY 5 K (SS w0 w1 w2 w3 p0 p1 p2 p3) Lall (SS w0 w1 w2 w3 p0 p1 p2 p3) := by intro _ _ _; kernel_rfl
theorem yo6 (w0 w1 w2 w3 p0 p1 p2 p3 : Bool) (K : AV) : rY 6 K (SS w0 w1 w2 w3 p0 p1 p2 p3) Lall (SS w0 w1 w2 w3 p0 p1 p2 p3) := by intro _ _ _; kernel_rfl
theorem yo7 (w0 w1 w2 w3 p0 p1 p2 p3 : Bool) (K : AV) : rY 7 K (SS w0 w1 w2 w3 p0 p1 p2 p3) Lall (SS w0 w1 w2 w3 p0 p1 p2 p3) := by intro _ _ _; kernel_rfl
theorem yo8 (w0 w1 w2 w3 p0 p1 p2 p3 : Bool) (K : AV) : rY 8 K (SS w0 w1 w2 w3 p0 p1 p2 p3) Lall (SS w0 w1 w2 w3 p0 p1 p2 p3) := by intro _ _ _; kernel_rfl
theorem yo9 (w0 w1 w2 w3 p0 p1 p2 p3 : Bool) (K : AV) : rY 9 K (SS w0 w1 w2 w3 p0 p1 p2 p3) Lall (SS w0 w1 w2 w3 p0 p1 p2 p3) := by intro _ _ _; kernel_rfl
theorem yo10 (w0 w1 w2 w3 p0 p1 p2 p3 : Bool) (K : AV) : rY 10 K (SS w0 w1 w2 w3 p0 p1 p2 p3) Lall (SS w0 w1 w2 w3 p0 p1 p2 p3) := by intro _ _ _; kernel_rfl
theorem yo11 (w0 w1 w2 w3 p0 p1 p2 p3 : Bool) (K : AV) : rY 11 K (SS w0 w1 w2 w3 p0 p1 p2 p3) Lall (SS w0 w1 w2 w3 p0 p1 p2 p3) := by intro _ _ _; kernel_rfl
theorem yo12 (w0 w1 w2 w3 p0 p1 p2 p3 : Bool) (K : AV) : rY 12 K (SS w0 w1 w2 w3 p0 p1 p2 p3) Lall (SS w0 w1 w2 w3 p0 p1 p2 p3) := by intro _ _ _; kernel_rfl
theorem yo13 (w0 w1 w2 w3 p0 p1 p2 p3 : Bool) (K : AV) : rY 13 K (SS w0 w1 w2 w3 p0 p1 p2 p3) Lall (SS w0 w1 w2 w3 p0 p1 p2 p3) := by intro _ _ _; kernel_rfl
theorem yo14 (w0 w1 w2 w3 p0 p1 p2 p3 : Bool) (K : AV) : rY 14 K (SS w0 w1 w2 w3 p0 p1 p2 p3) Lall (SS w0 w1 w2 w3 p0 p1 p2 p3) := by intro _ _ _; kernel_rfl
theorem yo15 (w0 w1 w2 w3 p0 p1 p2 p3 : Bool) (K : AV) : rY 15 K (SS w0 w1 w2 w3 p0 p1 p2 p3) Lall (SS w0 w1 w2 w3 p0 p1 p2 p3) := by intro _ _ _; kernel_rfl
theorem mo (w0 w1 w2 w3 p0 p1 p2 p3 : Bool) : mV [] (dlt 9) 7120 (SS w0 w1 w2 w3 p0 p1 p2 p3) (SS w0 w1 w2 w3 p0 p1 p2 p3) = true := by
  cases w0 <;> cases w1 <;> cases w2 <;> cases w3 <;> cases p0 <;> cases p1 <;> cases p2 <;> cases p3 <;> kernel_rfl
theorem mstart : mfB (svW (asg []) (fun _ => none) 7120) (asg []) wmh_m_15 (SS false false false false false false false false) = true := by kernel_rfl
end Go.Proofs.YtmjogmpgamlhaaaGreat

set_option maxRecDepth 100000
set_option maxHeartbeats 0
namespace Go.Proofs.YtmjogmpgamlhaaaGreat
open Go Go.RowKit Go.Lib Go.Proofs.YtmjogmpgamlhaaaGreat.Dm
noncomputable def SSf (w p : Nat → Bool) : Heap := SS (w 0) (w 1) (w 2) (w 3) (p 0) (p 1) (p 2) (p 3)
noncomputable def upW (w : Nat → Bool) (k : Nat) (v : Bool) : Nat → Bool := fun j => cnd (Nat.beq j k) v (w j)
abbrev StZ (k : Nat) (h g : Heap) : Prop := StepG 7 cZ (fun X0 X1 X2 => frK X0 X1 X2 (kA k)) frE h g
abbrev StY (k how : Nat) (h g : Heap) : Prop := StepG 5 cY (fun X0 X1 X2 => frY X0 X1 X2 (kA k) how) (fun X0 X1 X2 => frK X0 X1 X2 (kA k)) h g
/-- What is asked of the names and the bounds. -/
noncomputable def bnd (h h1 g : Heap) (l : List (Nat × Nat)) : Bool := Nat.ble h1.next argB && (Nat.ble g.next argB && (Nat.blt 7107 h.next && (Nat.beq (asg l 4061) 4061 && (Nat.beq (asg l 7107) 7107 && Nat.blt 7107 g.next))))
theorem bnd_of {h h1 g : Heap} {l : List (Nat × Nat)} (b : bnd h h1 g l = true) : Nat.ble h1.next argB = true ∧ Nat.ble g.next argB = true ∧ Nat.blt 7107 h.next = true ∧ asg l 4061 = 4061 ∧ asg l 7107 = 7107 ∧ Nat.blt 7107 g.next = true := by
  unfold bnd at b
  simp only [Bool.and_eq_true] at b
  exact ⟨b.1, b.2.1, b.2.2.1, Nat.eq_of_beq_eq_true b.2.2.2.1, Nat.eq_of_beq_eq_true b.2.2.2.2.1, b.2.2.2.2.2⟩
theorem ofZ {k : Nat} {h h1 g : Heap} {L : List Nat} (r : rZ k h L h1) {l : List (Nat × Nat)} {d : Nat → Option (Nat × Nat)} {n : Nat} (m : mV l d n h1 g = true) (hn : g.next = n) (b : bnd h h1 g l = true) : StZ k h g := by
  subst hn
  obtain ⟨b1, b2, b3, b4, b5, b6⟩ := bnd_of b
  exact fun X0 X1 X2 => ⟨h1, L, _, r X0 X1 X2, b1, b2, b3, asg l, d, b4, b5, b6, m⟩
theorem ofY {k how : Nat} {h h1 g : Heap} {L : List Nat} (r : rY how (kA k) h L h1) {l : List (Nat × Nat)} {d : Nat → Option (Nat × Nat)} {n : Nat} (m : mV l d n h1 g = true) (hn : g.next = n) (b : bnd h h1 g l = true) : StY k how h g := by
  subst hn
  obtain ⟨b1, b2, b3, b4, b5, b6⟩ := bnd_of b
  exact fun X0 X1 X2 => ⟨h1, L, _, r X0 X1 X2, b1, b2, b3, asg l, d, b4, b5, b6, m⟩
theorem kz0 (w0 w1 w2 w3 p0 p1 p2 p3 : Bool) : StZ 0 (SS w0 w1 w2 w3 p0 p1 p2 p3) (SS true w1 w2 w3 p0 p1 p2 p3) := by
  cases w0 <;> cases p0
  · exact ofZ (rz0_9_fvvv_fvvv w1 w2 w3 p1 p2 p3) (mz0_9_fvvv_fvvv w1 w2 w3 p1 p2 p3) rfl (by kernel_rfl)
  · exact ofZ (rz0_9_fvvv_tvvv w1 w2 w3 p1 p2 p3) (mz0_9_fvvv_tvvv w1 w2 w3 p1 p2 p3) rfl (by kernel_rfl)
  · exact ofZ (rz0_9_tvvv_fvvv w1 w2 w3 p1 p2 p3) (mz0_9_tvvv_fvvv w1 w2 w3 p1 p2 p3) rfl (by kernel_rfl)
  · exact ofZ (rz0_9_tvvv_tvvv w1 w2 w3 p1 p2 p3) (mz0_9_tvvv_tvvv w1 w2 w3 p1 p2 p3) rfl (by kernel_rfl)
theorem ko0 (w0 w1 w2 w3 p0 p1 p2 p3 : Bool) : StZ 0 (OS0 false w1 w2 w3 false p1 p2 p3) (SS true w1 w2 w3 true p1 p2 p3) := ofZ (ro0_9_fvvv_fvvv w1 w2 w3 p1 p2 p3) (mo0_9_fvvv_fvvv w1 w2 w3 p1 p2 p3) rfl (by kernel_rfl)
theorem ky1_0 (w0 w1 w2 w3 p0 p1 p2 p3 : Bool) : StY 0 1 (SS w0 w1 w2 w3 p0 p1 p2 p3) (SS false w1 w2 w3 p0 p1 p2 p3) := by
  cases w0 <;> cases w1 <;> cases w2 <;> cases w3
  · exact ofY (ry0_1_ffff_vvvv p0 p1 p2 p3) (my0_1_ffff_vvvv p0 p1 p2 p3) rfl (by kernel_rfl)
  · exact ofY (ry0_1_ffft_vvvv p0 p1 p2 p3) (my0_1_ffft_vvvv p0 p1 p2 p3) rfl (by kernel_rfl)
  · exact ofY (ry0_1_fftf_vvvv p0 p1 p2 p3) (my0_1_fftf_vvvv p0 p1 p2 p3) rfl (by kernel_rfl)
  · exact ofY (ry0_1_fftt_vvvv p0 p1 p2 p3) (my0_1_fftt_vvvv p0 p1 p2 p3) rfl (by kernel_rfl)
  · exact ofY (ry0_1_ftff_vvvv p0 p1 p2 p3) (my0_1_ftff_vvvv p0 p1 p2 p3) rfl (by kernel_rfl)
  · exact ofY (ry0_1_ftft_vvvv p0 p1 p2 p3) (my0_1_ftft_vvvv p0 p1 p2 p3) rfl (by kernel_rfl)
  · exact ofY (ry0_1_fttf_vvvv p0 p1 p2 p3) (my0_1_fttf_vvvv p0 p1 p2 p3) rfl (by kernel_rfl)
  · exact ofY (ry0_1_fttt_vvvv p0 p1 p2 p3) (my0_1_fttt_vvvv p0 p1 p2 p3) rfl (by kernel_rfl)
  · exact ofY (ry0_1_tfff_vvvv p0 p1 p2 p3) (my0_1_tfff_vvvv p0 p1 p2 p3) rfl (by kernel_rfl)
  · exact ofY (ry0_1_tfft_vvvv p0 p1 p2 p3) (my0_1_tfft_vvvv p0 p1 p2 p3) rfl (by kernel_rfl)
  · exact ofY (ry0_1_tftf_vvvv p0 p1 p2 p3) (my0_1_tftf_vvvv p0 p1 p2 p3) rfl (by kernel_rfl)
  · exact ofY (ry0_1_tftt_vvvv p0 p1 p2 p3) (my0_1_tftt_vvvv p0 p1 p2 p3) rfl (by kernel_rfl)
  · exact ofY (ry0_1_ttff_vvvv p0 p1 p2 p3) (my0_1_ttff_vvvv p0 p1 p2 p3) rfl (by kernel_rfl)
  · exact ofY (ry0_1_ttft_vvvv p0 p1 p2 p3) (my0_1_ttft_vvvv p0 p1 p2 p3) rfl (by kernel_rfl)
  · exact ofY (ry0_1_tttf_vvvv p0 p1 p2 p3) (my0_1_tttf_vvvv p0 p1 p2 p3) rfl (by kernel_rfl)
  · exact ofY (ry0_1_tttt_vvvv p0 p1 p2 p3) (my0_1_tttt_vvvv p0 p1 p2 p3) rfl (by kernel_rfl)
theorem ky2_0 (w0 w1 w2 w3 p0 p1 p2 p3 : Bool) : StY 0 2 (SS w0 w1 w2 w3 p0 p1 p2 p3) (OS0 false w1 w2 w3 false p1 p2 p3) := by
  cases w0 <;> cases w1 <;> cases w2 <;> cases w3 <;> cases p0
  · exact ofY (ry0_2_ffff_fvvv p1 p2 p3) (my0_2_ffff_fvvv p1 p2 p3) rfl (by kernel_rfl)
  · exact ofY (ry0_2_ffff_tvvv p1 p2 p3) (my0_2_ffff_tvvv p1 p2 p3) rfl (by kernel_rfl)
  · exact ofY (ry0_2_ffft_fvvv p1 p2 p3) (my0_2_ffft_fvvv p1 p2 p3) rfl (by kernel_rfl)
  · exact ofY (ry0_2_ffft_tvvv p1 p2 p3) (my0_2_ffft_tvvv p1 p2 p3) rfl (by kernel_rfl)
  · exact ofY (ry0_2_fftf_fvvv p1 p2 p3) (my0_2_fftf_fvvv p1 p2 p3) rfl (by kernel_rfl)
  · exact ofY (ry0_2_fftf_tvvv p1 p2 p3) (my0_2_fftf_tvvv p1 p2 p3) rfl (by kernel_rfl)
  · exact ofY (ry0_2_fftt_fvvv p1 p2 p3) (my0_2_fftt_fvvv p1 p2 p3) rfl (by kernel_rfl)
  · exact ofY (ry0_2_fftt_tvvv p1 p2 p3) (my0_2_fftt_tvvv p1 p2 p3) rfl (by kernel_rfl)
  · exact ofY (ry0_2_ftff_fvvv p1 p2 p3) (my0_2_ftff_fvvv p1 p2 p3) rfl (by kernel_rfl)
  · exact ofY (ry0_2_ftff_tvvv p1 p2 p3) (my0_2_ftff_tvvv p1 p2 p3) rfl (by kernel_rfl)
  · exact ofY (ry0_2_ftft_fvvv p1 p2 p3) (my0_2_ftft_fvvv p1 p2 p3) rfl (by kernel_rfl)
  · exact ofY (ry0_2_ftft_tvvv p1 p2 p3) (my0_2_ftft_tvvv p1 p2 p3) rfl (by kernel_rfl)
  · exact ofY (ry0_2_fttf_fvvv p1 p2 p3) (my0_2_fttf_fvvv p1 p2 p3) rfl (by kernel_rfl)
  · exact ofY (ry0_2_fttf_tvvv p1 p2 p3) (my0_2_fttf_tvvv p1 p2 p3) rfl (by kernel_rfl)
  · exact ofY (ry0_2_fttt_fvvv p1 p2 p3) (my0_2_fttt_fvvv p1 p2 p3) rfl (by kernel_rfl)
  · exact ofY (ry0_2_fttt_tvvv p1 p2 p3) (my0_2_fttt_tvvv p1 p2 p3) rfl (by kernel_rfl)
  · exact ofY (ry0_2_tfff_fvvv p1 p2 p3) (my0_2_tfff_fvvv p1 p2 p3) rfl (by kernel_rfl)
  · exact ofY (ry0_2_tfff_tvvv p1 p2 p3) (my0_2_tfff_tvvv p1 p2 p3) rfl (by kernel_rfl)
  · exact ofY (ry0_2_tfft_fvvv p1 p2 p3) (my0_2_tfft_fvvv p1 p2 p3) rfl (by kernel_rfl)
  · exact ofY (ry0_2_tfft_tvvv p1 p2 p3) (my0_2_tfft_tvvv p1 p2 p3) rfl (by kernel_rfl)
  · exact ofY (ry0_2_tftf_fvvv p1 p2 p3) (my0_2_tftf_fvvv p1 p2 p3) rfl (by kernel_rfl)
  · exact ofY (ry0_2_tftf_tvvv p1 p2 p3) (my0_2_tftf_tvvv p1 p2 p3) rfl (by kernel_rfl)
  · exact ofY (ry0_2_tftt_fvvv p1 p2 p3) (my0_2_tftt_fvvv p1 p2 p3) rfl (by kernel_rfl)
  · exact ofY (ry0_2_tftt_tvvv p1 p2 p3) (my0_2_tftt_tvvv p1 p2 p3) rfl (by kernel_rfl)
  · exact ofY (ry0_2_ttff_fvvv p1 p2 p3) (my0_2_ttff_fvvv p1 p2 p3) rfl (by kernel_rfl)
  · exact ofY (ry0_2_ttff_tvvv p1 p2 p3) (my0_2_ttff_tvvv p1 p2 p3) rfl (by kernel_rfl)
  · exact ofY (ry0_2_ttft_fvvv p1 p2 p3) (my0_2_ttft_fvvv p1 p2 p3) rfl (by kernel_rfl)
  · exact ofY (ry0_2_ttft_tvvv p1 p2 p3) (my0_2_ttft_tvvv p1 p2 p3) rfl (by kernel_rfl)
  · exact ofY (ry0_2_tttf_fvvv p1 p2 p3) (my0_2_tttf_fvvv p1 p2 p3) rfl (by kernel_rfl)
  · exact ofY (ry0_2_tttf_tvvv p1 p2 p3) (my0_2_tttf_tvvv p1 p2 p3) rfl (by kernel_rfl)
  · exact ofY (ry0_2_tttt_fvvv p1 p2 p3) (my0_2_tttt_fvvv p1 p2 p3) rfl (by kernel_rfl)
  · exact ofY (ry0_2_tttt_tvvv p1 p2 p3) (my0_2_tttt_tvvv p1 p2 p3) rfl (by kernel_rfl)
theorem kz1 (w0 w1 w2 w3 p0 p1 p2 p3 : Bool) : StZ 1 (SS w0 w1 w2 w3 p0 p1 p2 p3) (SS w0 true w2 w3 p0 p1 p2 p3) := by
  cases w1 <;> cases p1
  · exact ofZ (rz1_9_vfvv_vfvv w0 w2 w3 p0 p2 p3) (mz1_9_vfvv_vfvv w0 w2 w3 p0 p2 p3) rfl (by kernel_rfl)
  · exact ofZ (rz1_9_vfvv_vtvv w0 w2 w3 p0 p2 p3) (mz1_9_vfvv_vtvv w0 w2 w3 p0 p2 p3) rfl (by kernel_rfl)
  · exact ofZ (rz1_9_vtvv_vfvv w0 w2 w3 p0 p2 p3) (mz1_9_vtvv_vfvv w0 w2 w3 p0 p2 p3) rfl (by kernel_rfl)
  · exact ofZ (rz1_9_vtvv_vtvv w0 w2 w3 p0 p2 p3) (mz1_9_vtvv_vtvv w0 w2 w3 p0 p2 p3) rfl (by kernel_rfl)
theorem ko1 (w0 w1 w2 w3 p0 p1 p2 p3 : Bool) : StZ 1 (OS1 w0 false w2 w3 p0 false p2 p3) (SS w0 true w2 w3 p0 true p2 p3) := ofZ (ro1_9_vfvv_vfvv w0 w2 w3 p0 p2 p3) (mo1_9_vfvv_vfvv w0 w2 w3 p0 p2 p3) rfl (by kernel_rfl)
theorem ky1_1 (w0 w1 w2 w3 p0 p1 p2 p3 : Bool) : StY 1 1 (SS w0 w1 w2 w3 p0 p1 p2 p3) (SS w0 false w2 w3 p0 p1 p2 p3) := by
  cases w0 <;> cases w1 <;> cases w2 <;> cases w3
  · exact ofY (ry1_1_ffff_vvvv p0 p1 p2 p3) (my1_1_ffff_vvvv p0 p1 p2 p3) rfl (by kernel_rfl)
  · exact ofY (ry1_1_ffft_vvvv p0 p1 p2 p3) (my1_1_ffft_vvvv p0 p1 p2 p3) rfl (by kernel_rfl)
  · exact ofY (ry1_1_fftf_vvvv p0 p1 p2 p3) (my1_1_fftf_vvvv p0 p1 p2 p3) rfl (by kernel_rfl)
  · exact ofY (ry1_1_fftt_vvvv p0 p1 p2 p3) (my1_1_fftt_vvvv p0 p1 p2 p3) rfl (by kernel_rfl)
  · exact ofY (ry1_1_ftff_vvvv p0 p1 p2 p3) (my1_1_ftff_vvvv p0 p1 p2 p3) rfl (by kernel_rfl)
  · exact ofY (ry1_1_ftft_vvvv p0 p1 p2 p3) (my1_1_ftft_vvvv p0 p1 p2 p3) rfl (by kernel_rfl)
  · exact ofY (ry1_1_fttf_vvvv p0 p1 p2 p3) (my1_1_fttf_vvvv p0 p1 p2 p3) rfl (by kernel_rfl)
  · exact ofY (ry1_1_fttt_vvvv p0 p1 p2 p3) (my1_1_fttt_vvvv p0 p1 p2 p3) rfl (by kernel_rfl)
  · exact ofY (ry1_1_tfff_vvvv p0 p1 p2 p3) (my1_1_tfff_vvvv p0 p1 p2 p3) rfl (by kernel_rfl)
  · exact ofY (ry1_1_tfft_vvvv p0 p1 p2 p3) (my1_1_tfft_vvvv p0 p1 p2 p3) rfl (by kernel_rfl)
  · exact ofY (ry1_1_tftf_vvvv p0 p1 p2 p3) (my1_1_tftf_vvvv p0 p1 p2 p3) rfl (by kernel_rfl)
  · exact ofY (ry1_1_tftt_vvvv p0 p1 p2 p3) (my1_1_tftt_vvvv p0 p1 p2 p3) rfl (by kernel_rfl)
  · exact ofY (ry1_1_ttff_vvvv p0 p1 p2 p3) (my1_1_ttff_vvvv p0 p1 p2 p3) rfl (by kernel_rfl)
  · exact ofY (ry1_1_ttft_vvvv p0 p1 p2 p3) (my1_1_ttft_vvvv p0 p1 p2 p3) rfl (by kernel_rfl)
  · exact ofY (ry1_1_tttf_vvvv p0 p1 p2 p3) (my1_1_tttf_vvvv p0 p1 p2 p3) rfl (by kernel_rfl)
  · exact ofY (ry1_1_tttt_vvvv p0 p1 p2 p3) (my1_1_tttt_vvvv p0 p1 p2 p3) rfl (by kernel_rfl)
theorem ky2_1 (w0 w1 w2 w3 p0 p1 p2 p3 : Bool) : StY 1 2 (SS w0 w1 w2 w3 p0 p1 p2 p3) (OS1 w0 false w2 w3 p0 false p2 p3) := by
  cases w0 <;> cases w1 <;> cases w2 <;> cases w3 <;> cases p1
  · exact ofY (ry1_2_ffff_vfvv p0 p2 p3) (my1_2_ffff_vfvv p0 p2 p3) rfl (by kernel_rfl)
  · exact ofY (ry1_2_ffff_vtvv p0 p2 p3) (my1_2_ffff_vtvv p0 p2 p3) rfl (by kernel_rfl)
  · exact ofY (ry1_2_ffft_vfvv p0 p2 p3) (my1_2_ffft_vfvv p0 p2 p3) rfl (by kernel_rfl)
  · exact ofY (ry1_2_ffft_vtvv p0 p2 p3) (my1_2_ffft_vtvv p0 p2 p3) rfl (by kernel_rfl)
  · exact ofY (ry1_2_fftf_vfvv p0 p2 p3) (my1_2_fftf_vfvv p0 p2 p3) rfl (by kernel_rfl)
  · exact ofY (ry1_2_fftf_vtvv p0 p2 p3) (my1_2_fftf_vtvv p0 p2 p3) rfl (by kernel_rfl)
  · exact ofY (ry1_2_fftt_vfvv p0 p2 p3) (my1_2_fftt_vfvv p0 p2 p3) rfl (by kernel_rfl)
  · exact ofY (ry1_2_fftt_vtvv p0 p2 p3) (my1_2_fftt_vtvv p0 p2 p3) rfl (by kernel_rfl)
  · exact ofY (ry1_2_ftff_vfvv p0 p2 p3) (my1_2_ftff_vfvv p0 p2 p3) rfl (by kernel_rfl)
  · exact ofY (ry1_2_ftff_vtvv p0 p2 p3) (my1_2_ftff_vtvv p0 p2 p3) rfl (by kernel_rfl)
  · exact ofY (ry1_2_ftft_vfvv p0 p2 p3) (my1_2_ftft_vfvv p0 p2 p3) rfl (by kernel_rfl)
  · exact ofY (ry1_2_ftft_vtvv p0 p2 p3) (my1_2_ftft_vtvv p0 p2 p3) rfl (by kernel_rfl)
  · exact ofY (ry1_2_fttf_vfvv p0 p2 p3) (my1_2_fttf_vfvv p0 p2 p3) rfl (by kernel_rfl)
  · exact ofY (ry1_2_fttf_vtvv p0 p2 p3) (my1_2_fttf_vtvv p0 p2 p3) rfl (by kernel_rfl)
  · exact ofY (ry1_2_fttt_vfvv p0 p2 p3) (my1_2_fttt_vfvv p0 p2 p3) rfl (by kernel_rfl)
  · exact ofY (ry1_2_fttt_vtvv p0 p2 p3) (my1_2_fttt_vtvv p0 p2 p3) rfl (by kernel_rfl)
  · exact ofY (ry1_2_tfff_vfvv p0 p2 p3) (my1_2_tfff_vfvv p0 p2 p3) rfl (by kernel_rfl)
  · exact ofY (ry1_2_tfff_vtvv p0 p2 p3) (my1_2_tfff_vtvv p0 p2 p3) rfl (by kernel_rfl)
  · exact ofY (ry1_2_tfft_vfvv p0 p2 p3) (my1_2_tfft_vfvv p0 p2 p3) rfl (by kernel_rfl)
  · exact ofY (ry1_2_tfft_vtvv p0 p2 p3) (my1_2_tfft_vtvv p0 p2 p3) rfl (by kernel_rfl)
  · exact ofY (ry1_2_tftf_vfvv p0 p2 p3) (my1_2_tftf_vfvv p0 p2 p3) rfl (by kernel_rfl)
  · exact ofY (ry1_2_tftf_vtvv p0 p2 p3) (my1_2_tftf_vtvv p0 p2 p3) rfl (by kernel_rfl)
  · exact ofY (ry1_2_tftt_vfvv p0 p2 p3) (my1_2_tftt_vfvv p0 p2 p3) rfl (by kernel_rfl)
  · exact ofY (ry1_2_tftt_vtvv p0 p2 p3) (my1_2_tftt_vtvv p0 p2 p3) rfl (by kernel_rfl)
  · exact ofY (ry1_2_ttff_vfvv p0 p2 p3) (my1_2_ttff_vfvv p0 p2 p3) rfl (by kernel_rfl)
  · exact ofY (ry1_2_ttff_vtvv p0 p2 p3) (my1_2_ttff_vtvv p0 p2 p3) rfl (by kernel_rfl)
  · exact ofY (ry1_2_ttft_vfvv p0 p2 p3) (my1_2_ttft_vfvv p0 p2 p3) rfl (by kernel_rfl)
  · exact ofY (ry1_2_ttft_vtvv p0 p2 p3) (my1_2_ttft_vtvv p0 p2 p3) rfl (by kernel_rfl)
  · exact ofY (ry1_2_tttf_vfvv p0 p2 p3) (my1_2_tttf_vfvv p0 p2 p3) rfl (by kernel_rfl)
  · exact ofY (ry1_2_tttf_vtvv p0 p2 p3) (my1_2_tttf_vtvv p0 p2 p3) rfl (by kernel_rfl)
  · exact ofY (ry1_2_tttt_vfvv p0 p2 p3) (my1_2_tttt_vfvv p0 p2 p3) rfl (by kernel_rfl)
  · exact ofY (ry1_2_tttt_vtvv p0 p2 p3) (my1_2_tttt_vtvv p0 p2 p3) rfl (by kernel_rfl)
theorem kz2 (w0 w1 w2 w3 p0 p1 p2 p3 : Bool) : StZ 2 (SS w0 w1 w2 w3 p0 p1 p2 p3) (SS w0 w1 true w3 p0 p1 p2 p3) := by
  cases w2 <;> cases p2
  · exact ofZ (rz2_9_vvfv_vvfv w0 w1 w3 p0 p1 p3) (mz2_9_vvfv_vvfv w0 w1 w3 p0 p1 p3) rfl (by kernel_rfl)
  · exact ofZ (rz2_9_vvfv_vvtv w0 w1 w3 p0 p1 p3) (mz2_9_vvfv_vvtv w0 w1 w3 p0 p1 p3) rfl (by kernel_rfl)
  · exact ofZ (rz2_9_vvtv_vvfv w0 w1 w3 p0 p1 p3) (mz2_9_vvtv_vvfv w0 w1 w3 p0 p1 p3) rfl (by kernel_rfl)
  · exact ofZ (rz2_9_vvtv_vvtv w0 w1 w3 p0 p1 p3) (mz2_9_vvtv_vvtv w0 w1 w3 p0 p1 p3) rfl (by kernel_rfl)
theorem ko2 (w0 w1 w2 w3 p0 p1 p2 p3 : Bool) : StZ 2 (OS2 w0 w1 false w3 p0 p1 false p3) (SS w0 w1 true w3 p0 p1 true p3) := ofZ (ro2_9_vvfv_vvfv w0 w1 w3 p0 p1 p3) (mo2_9_vvfv_vvfv w0 w1 w3 p0 p1 p3) rfl (by kernel_rfl)
theorem ky1_2 (w0 w1 w2 w3 p0 p1 p2 p3 : Bool) : StY 2 1 (SS w0 w1 w2 w3 p0 p1 p2 p3) (SS w0 w1 false w3 p0 p1 p2 p3) := by
  cases w0 <;> cases w1 <;> cases w2 <;> cases w3
  · exact ofY (ry2_1_ffff_vvvv p0 p1 p2 p3) (my2_1_ffff_vvvv p0 p1 p2 p3) rfl (by kernel_rfl)
  · exact ofY (ry2_1_ffft_vvvv p0 p1 p2 p3) (my2_1_ffft_vvvv p0 p1 p2 p3) rfl (by kernel_rfl)
  · exact ofY (ry2_1_fftf_vvvv p0 p1 p2 p3) (my2_1_fftf_vvvv p0 p1 p2 p3) rfl (by kernel_rfl)
  · exact ofY (ry2_1_fftt_vvvv p0 p1 p2 p3) (my2_1_fftt_vvvv p0 p1 p2 p3) rfl (by kernel_rfl)
  · exact ofY (ry2_1_ftff_vvvv p0 p1 p2 p3) (my2_1_ftff_vvvv p0 p1 p2 p3) rfl (by kernel_rfl)
  · exact ofY (ry2_1_ftft_vvvv p0 p1 p2 p3) (my2_1_ftft_vvvv p0 p1 p2 p3) rfl (by kernel_rfl)
  · exact ofY (ry2_1_fttf_vvvv p0 p1 p2 p3) (my2_1_fttf_vvvv p0 p1 p2 p3) rfl (by kernel_rfl)
  · exact ofY (ry2_1_fttt_vvvv p0 p1 p2 p3) (my2_1_fttt_vvvv p0 p1 p2 p3) rfl (by kernel_rfl)
  · exact ofY (ry2_1_tfff_vvvv p0 p1 p2 p3) (my2_1_tfff_vvvv p0 p1 p2 p3) rfl (by kernel_rfl)
  · exact ofY (ry2_1_tfft_vvvv p0 p1 p2 p3) (my2_1_tfft_vvvv p0 p1 p2 p3) rfl (by kernel_rfl)
  · exact ofY (ry2_1_tftf_vvvv p0 p1 p2 p3) (my2_1_tftf_vvvv p0 p1 p2 p3) rfl (by kernel_rfl)
  · exact ofY (ry2_1_tftt_vvvv p0 p1 p2 p3) (my2_1_tftt_vvvv p0 p1 p2 p3) rfl (by kernel_rfl)
  · exact ofY (ry2_1_ttff_vvvv p0 p1 p2 p3) (my2_1_ttff_vvvv p0 p1 p2 p3) rfl (by kernel_rfl)
  · exact ofY (ry2_1_ttft_vvvv p0 p1 p2 p3) (my2_1_ttft_vvvv p0 p1 p2 p3) rfl (by kernel_rfl)
  · exact ofY (ry2_1_tttf_vvvv p0 p1 p2 p3) (my2_1_tttf_vvvv p0 p1 p2 p3) rfl (by kernel_rfl)
  · exact ofY (ry2_1_tttt_vvvv p0 p1 p2 p3) (my2_1_tttt_vvvv p0 p1 p2 p3) rfl (by kernel_rfl)
theorem ky2_2 (w0 w1 w2 w3 p0 p1 p2 p3 : Bool) : StY 2 2 (SS w0 w1 w2 w3 p0 p1 p2 p3) (OS2 w0 w1 false w3 p0 p1 false p3) := by
  cases w0 <;> cases w1 <;> cases w2 <;> cases w3 <;> cases p2
  · exact ofY (ry2_2_ffff_vvfv p0 p1 p3) (my2_2_ffff_vvfv p0 p1 p3) rfl (by kernel_rfl)
  · exact ofY (ry2_2_ffff_vvtv p0 p1 p3) (my2_2_ffff_vvtv p0 p1 p3) rfl (by kernel_rfl)
  · exact ofY (ry2_2_ffft_vvfv p0 p1 p3) (my2_2_ffft_vvfv p0 p1 p3) rfl (by kernel_rfl)
  · exact ofY (ry2_2_ffft_vvtv p0 p1 p3) (my2_2_ffft_vvtv p0 p1 p3) rfl (by kernel_rfl)
  · exact ofY (ry2_2_fftf_vvfv p0 p1 p3) (my2_2_fftf_vvfv p0 p1 p3) rfl (by kernel_rfl)
  · exact ofY (ry2_2_fftf_vvtv p0 p1 p3) (my2_2_fftf_vvtv p0 p1 p3) rfl (by kernel_rfl)
  · exact ofY (ry2_2_fftt_vvfv p0 p1 p3) (my2_2_fftt_vvfv p0 p1 p3) rfl (by kernel_rfl)
  · exact ofY (ry2_2_fftt_vvtv p0 p1 p3) (my2_2_fftt_vvtv p0 p1 p3) rfl (by kernel_rfl)
  · exact ofY (ry2_2_ftff_vvfv p0 p1 p3) (my2_2_ftff_vvfv p0 p1 p3) rfl (by kernel_rfl)
  · exact ofY (ry2_2_ftff_vvtv p0 p1 p3) (my2_2_ftff_vvtv p0 p1 p3) rfl (by kernel_rfl)
  · exact ofY (ry2_2_ftft_vvfv p0 p1 p3) (my2_2_ftft_vvfv p0 p1 p3) rfl (by kernel_rfl)
  · exact ofY (ry2_2_ftft_vvtv p0 p1 p3) (my2_2_ftft_vvtv p0 p1 p3) rfl (by kernel_rfl)
  · exact ofY (ry2_2_fttf_vvfv p0 p1 p3) (my2_2_fttf_vvfv p0 p1 p3) rfl (by kernel_rfl)
  · exact ofY (ry2_2_fttf_vvtv p0 p1 p3) (my2_2_fttf_vvtv p0 p1 p3) rfl (by kernel_rfl)
  · exact ofY (ry2_2_fttt_vvfv p0 p1 p3) (my2_2_fttt_vvfv p0 p1 p3) rfl (by kernel_rfl)
  · exact ofY (ry2_2_fttt_vvtv p0 p1 p3) (my2_2_fttt_vvtv p0 p1 p3) rfl (by kernel_rfl)
  · exact ofY (ry2_2_tfff_vvfv p0 p1 p3) (my2_2_tfff_vvfv p0 p1 p3) rfl (by kernel_rfl)
  · exact ofY (ry2_2_tfff_vvtv p0 p1 p3) (my2_2_tfff_vvtv p0 p1 p3) rfl (by kernel_rfl)
  · exact ofY (ry2_2_tfft_vvfv p0 p1 p3) (my2_2_tfft_vvfv p0 p1 p3) rfl (by kernel_rfl)
  · exact ofY (ry2_2_tfft_vvtv p0 p1 p3) (my2_2_tfft_vvtv p0 p1 p3) rfl (by kernel_rfl)
  · exact ofY (ry2_2_tftf_vvfv p0 p1 p3) (my2_2_tftf_vvfv p0 p1 p3) rfl (by kernel_rfl)
  · exact ofY (ry2_2_tftf_vvtv p0 p1 p3) (my2_2_tftf_vvtv p0 p1 p3) rfl (by kernel_rfl)
  · exact ofY (ry2_2_tftt_vvfv p0 p1 p3) (my2_2_tftt_vvfv p0 p1 p3) rfl (by kernel_rfl)
  · exact ofY (ry2_2_tftt_vvtv p0 p1 p3) (my2_2_tftt_vvtv p0 p1 p3) rfl (by kernel_rfl)
  · exact ofY (ry2_2_ttff_vvfv p0 p1 p3) (my2_2_ttff_vvfv p0 p1 p3) rfl (by kernel_rfl)
  · exact ofY (ry2_2_ttff_vvtv p0 p1 p3) (my2_2_ttff_vvtv p0 p1 p3) rfl (by kernel_rfl)
  · exact ofY (ry2_2_ttft_vvfv p0 p1 p3) (my2_2_ttft_vvfv p0 p1 p3) rfl (by kernel_rfl)
  · exact ofY (ry2_2_ttft_vvtv p0 p1 p3) (my2_2_ttft_vvtv p0 p1 p3) rfl (by kernel_rfl)
  · exact ofY (ry2_2_tttf_vvfv p0 p1 p3) (my2_2_tttf_vvfv p0 p1 p3) rfl (by kernel_rfl)
  · exact ofY (ry2_2_tttf_vvtv p0 p1 p3) (my2_2_tttf_vvtv p0 p1 p3) rfl (by kernel_rfl)
  · exact ofY (ry2_2_tttt_vvfv p0 p1 p3) (my2_2_tttt_vvfv p0 p1 p3) rfl (by kernel_rfl)
  · exact ofY (ry2_2_tttt_vvtv p0 p1 p3) (my2_2_tttt_vvtv p0 p1 p3) rfl (by kernel_rfl)
theorem kz3 (w0 w1 w2 w3 p0 p1 p2 p3 : Bool) : StZ 3 (SS w0 w1 w2 w3 p0 p1 p2 p3) (SS w0 w1 w2 true p0 p1 p2 p3) := by
  cases w3 <;> cases p3
  · exact ofZ (rz3_9_vvvf_vvvf w0 w1 w2 p0 p1 p2) (mz3_9_vvvf_vvvf w0 w1 w2 p0 p1 p2) rfl (by kernel_rfl)
  · exact ofZ (rz3_9_vvvf_vvvt w0 w1 w2 p0 p1 p2) (mz3_9_vvvf_vvvt w0 w1 w2 p0 p1 p2) rfl (by kernel_rfl)
  · exact ofZ (rz3_9_vvvt_vvvf w0 w1 w2 p0 p1 p2) (mz3_9_vvvt_vvvf w0 w1 w2 p0 p1 p2) rfl (by kernel_rfl)
  · exact ofZ (rz3_9_vvvt_vvvt w0 w1 w2 p0 p1 p2) (mz3_9_vvvt_vvvt w0 w1 w2 p0 p1 p2) rfl (by kernel_rfl)
theorem ko3 (w0 w1 w2 w3 p0 p1 p2 p3 : Bool) : StZ 3 (OS3 w0 w1 w2 false p0 p1 p2 false) (SS w0 w1 w2 true p0 p1 p2 true) := ofZ (ro3_9_vvvf_vvvf w0 w1 w2 p0 p1 p2) (mo3_9_vvvf_vvvf w0 w1 w2 p0 p1 p2) rfl (by kernel_rfl)
theorem ky1_3 (w0 w1 w2 w3 p0 p1 p2 p3 : Bool) : StY 3 1 (SS w0 w1 w2 w3 p0 p1 p2 p3) (SS w0 w1 w2 false p0 p1 p2 p3) := by
  cases w0 <;> cases w1 <;> cases w2 <;> cases w3
  · exact ofY (ry3_1_ffff_vvvv p0 p1 p2 p3) (my3_1_ffff_vvvv p0 p1 p2 p3) rfl (by kernel_rfl)
  · exact ofY (ry3_1_ffft_vvvv p0 p1 p2 p3) (my3_1_ffft_vvvv p0 p1 p2 p3) rfl (by kernel_rfl)
  · exact ofY (ry3_1_fftf_vvvv p0 p1 p2 p3) (my3_1_fftf_vvvv p0 p1 p2 p3) rfl (by kernel_rfl)
  · exact ofY (ry3_1_fftt_vvvv p0 p1 p2 p3) (my3_1_fftt_vvvv p0 p1 p2 p3) rfl (by kernel_rfl)
  · exact ofY (ry3_1_ftff_vvvv p0 p1 p2 p3) (my3_1_ftff_vvvv p0 p1 p2 p3) rfl (by kernel_rfl)
  · exact ofY (ry3_1_ftft_vvvv p0 p1 p2 p3) (my3_1_ftft_vvvv p0 p1 p2 p3) rfl (by kernel_rfl)
  · exact ofY (ry3_1_fttf_vvvv p0 p1 p2 p3) (my3_1_fttf_vvvv p0 p1 p2 p3) rfl (by kernel_rfl)
  · exact ofY (ry3_1_fttt_vvvv p0 p1 p2 p3) (my3_1_fttt_vvvv p0 p1 p2 p3) rfl (by kernel_rfl)
  · exact ofY (ry3_1_tfff_vvvv p0 p1 p2 p3) (my3_1_tfff_vvvv p0 p1 p2 p3) rfl (by kernel_rfl)
  · exact ofY (ry3_1_tfft_vvvv p0 p1 p2 p3) (my3_1_tfft_vvvv p0 p1 p2 p3) rfl (by kernel_rfl)
  · exact ofY (ry3_1_tftf_vvvv p0 p1 p2 p3) (my3_1_tftf_vvvv p0 p1 p2 p3) rfl (by kernel_rfl)
  · exact ofY (ry3_1_tftt_vvvv p0 p1 p2 p3) (my3_1_tftt_vvvv p0 p1 p2 p3) rfl (by kernel_rfl)
  · exact ofY (ry3_1_ttff_vvvv p0 p1 p2 p3) (my3_1_ttff_vvvv p0 p1 p2 p3) rfl (by kernel_rfl)
  · exact ofY (ry3_1_ttft_vvvv p0 p1 p2 p3) (my3_1_ttft_vvvv p0 p1 p2 p3) rfl (by kernel_rfl)
  · exact ofY (ry3_1_tttf_vvvv p0 p1 p2 p3) (my3_1_tttf_vvvv p0 p1 p2 p3) rfl (by kernel_rfl)
  · exact ofY (ry3_1_tttt_vvvv p0 p1 p2 p3) (my3_1_tttt_vvvv p0 p1 p2 p3) rfl (by kernel_rfl)
theorem ky2_3 (w0 w1 w2 w3 p0 p1 p2 p3 : Bool) : StY 3 2 (SS w0 w1 w2 w3 p0 p1 p2 p3) (OS3 w0 w1 w2 false p0 p1 p2 false) := by
  cases w0 <;> cases w1 <;> cases w2 <;> cases w3 <;> cases p3
  · exact ofY (ry3_2_ffff_vvvf p0 p1 p2) (my3_2_ffff_vvvf p0 p1 p2) rfl (by kernel_rfl)
  · exact ofY (ry3_2_ffff_vvvt p0 p1 p2) (my3_2_ffff_vvvt p0 p1 p2) rfl (by kernel_rfl)
  · exact ofY (ry3_2_ffft_vvvf p0 p1 p2) (my3_2_ffft_vvvf p0 p1 p2) rfl (by kernel_rfl)
  · exact ofY (ry3_2_ffft_vvvt p0 p1 p2) (my3_2_ffft_vvvt p0 p1 p2) rfl (by kernel_rfl)
  · exact ofY (ry3_2_fftf_vvvf p0 p1 p2) (my3_2_fftf_vvvf p0 p1 p2) rfl (by kernel_rfl)
  · exact ofY (ry3_2_fftf_vvvt p0 p1 p2) (my3_2_fftf_vvvt p0 p1 p2) rfl (by kernel_rfl)
  · exact ofY (ry3_2_fftt_vvvf p0 p1 p2) (my3_2_fftt_vvvf p0 p1 p2) rfl (by kernel_rfl)
  · exact ofY (ry3_2_fftt_vvvt p0 p1 p2) (my3_2_fftt_vvvt p0 p1 p2) rfl (by kernel_rfl)
  · exact ofY (ry3_2_ftff_vvvf p0 p1 p2) (my3_2_ftff_vvvf p0 p1 p2) rfl (by kernel_rfl)
  · exact ofY (ry3_2_ftff_vvvt p0 p1 p2) (my3_2_ftff_vvvt p0 p1 p2) rfl (by kernel_rfl)
  · exact ofY (ry3_2_ftft_vvvf p0 p1 p2) (my3_2_ftft_vvvf p0 p1 p2) rfl (by kernel_rfl)
  · exact ofY (ry3_2_ftft_vvvt p0 p1 p2) (my3_2_ftft_vvvt p0 p1 p2) rfl (by kernel_rfl)
  · exact ofY (ry3_2_fttf_vvvf p0 p1 p2) (my3_2_fttf_vvvf p0 p1 p2) rfl (by kernel_rfl)
  · exact ofY (ry3_2_fttf_vvvt p0 p1 p2) (my3_2_fttf_vvvt p0 p1 p2) rfl (by kernel_rfl)
  · exact ofY (ry3_2_fttt_vvvf p0 p1 p2) (my3_2_fttt_vvvf p0 p1 p2) rfl (by kernel_rfl)
  · exact ofY (ry3_2_fttt_vvvt p0 p1 p2) (my3_2_fttt_vvvt p0 p1 p2) rfl (by kernel_rfl)
  · exact ofY (ry3_2_tfff_vvvf p0 p1 p2) (my3_2_tfff_vvvf p0 p1 p2) rfl (by kernel_rfl)
  · exact ofY (ry3_2_tfff_vvvt p0 p1 p2) (my3_2_tfff_vvvt p0 p1 p2) rfl (by kernel_rfl)
  · exact ofY (ry3_2_tfft_vvvf p0 p1 p2) (my3_2_tfft_vvvf p0 p1 p2) rfl (by kernel_rfl)
  · exact ofY (ry3_2_tfft_vvvt p0 p1 p2) (my3_2_tfft_vvvt p0 p1 p2) rfl (by kernel_rfl)
  · exact ofY (ry3_2_tftf_vvvf p0 p1 p2) (my3_2_tftf_vvvf p0 p1 p2) rfl (by kernel_rfl)
  · exact ofY (ry3_2_tftf_vvvt p0 p1 p2) (my3_2_tftf_vvvt p0 p1 p2) rfl (by kernel_rfl)
  · exact ofY (ry3_2_tftt_vvvf p0 p1 p2) (my3_2_tftt_vvvf p0 p1 p2) rfl (by kernel_rfl)
  · exact ofY (ry3_2_tftt_vvvt p0 p1 p2) (my3_2_tftt_vvvt p0 p1 p2) rfl (by kernel_rfl)
  · exact ofY (ry3_2_ttff_vvvf p0 p1 p2) (my3_2_ttff_vvvf p0 p1 p2) rfl (by kernel_rfl)
  · exact ofY (ry3_2_ttff_vvvt p0 p1 p2) (my3_2_ttff_vvvt p0 p1 p2) rfl (by kernel_rfl)
  · exact ofY (ry3_2_ttft_vvvf p0 p1 p2) (my3_2_ttft_vvvf p0 p1 p2) rfl (by kernel_rfl)
  · exact ofY (ry3_2_ttft_vvvt p0 p1 p2) (my3_2_ttft_vvvt p0 p1 p2) rfl (by kernel_rfl)
  · exact ofY (ry3_2_tttf_vvvf p0 p1 p2) (my3_2_tttf_vvvf p0 p1 p2) rfl (by kernel_rfl)
  · exact ofY (ry3_2_tttf_vvvt p0 p1 p2) (my3_2_tttf_vvvt p0 p1 p2) rfl (by kernel_rfl)
  · exact ofY (ry3_2_tttt_vvvf p0 p1 p2) (my3_2_tttt_vvvf p0 p1 p2) rfl (by kernel_rfl)
  · exact ofY (ry3_2_tttt_vvvt p0 p1 p2) (my3_2_tttt_vvvt p0 p1 p2) rfl (by kernel_rfl)
theorem ky0 (w0 w1 w2 w3 p0 p1 p2 p3 : Bool) (k : Nat) : StY k 0 (SS w0 w1 w2 w3 p0 p1 p2 p3) (SS false false false false p0 p1 p2 p3) := by
  cases w0 <;> cases w1 <;> cases w2 <;> cases w3
  · exact ofY (ry0_0_ffff_vvvv p0 p1 p2 p3 (kA k)) (my0_0_ffff_vvvv p0 p1 p2 p3) rfl (by kernel_rfl)
  · exact ofY (ry0_0_ffft_vvvv p0 p1 p2 p3 (kA k)) (my0_0_ffft_vvvv p0 p1 p2 p3) rfl (by kernel_rfl)
  · exact ofY (ry0_0_fftf_vvvv p0 p1 p2 p3 (kA k)) (my0_0_fftf_vvvv p0 p1 p2 p3) rfl (by kernel_rfl)
  · exact ofY (ry0_0_fftt_vvvv p0 p1 p2 p3 (kA k)) (my0_0_fftt_vvvv p0 p1 p2 p3) rfl (by kernel_rfl)
  · exact ofY (ry0_0_ftff_vvvv p0 p1 p2 p3 (kA k)) (my0_0_ftff_vvvv p0 p1 p2 p3) rfl (by kernel_rfl)
  · exact ofY (ry0_0_ftft_vvvv p0 p1 p2 p3 (kA k)) (my0_0_ftft_vvvv p0 p1 p2 p3) rfl (by kernel_rfl)
  · exact ofY (ry0_0_fttf_vvvv p0 p1 p2 p3 (kA k)) (my0_0_fttf_vvvv p0 p1 p2 p3) rfl (by kernel_rfl)
  · exact ofY (ry0_0_fttt_vvvv p0 p1 p2 p3 (kA k)) (my0_0_fttt_vvvv p0 p1 p2 p3) rfl (by kernel_rfl)
  · exact ofY (ry0_0_tfff_vvvv p0 p1 p2 p3 (kA k)) (my0_0_tfff_vvvv p0 p1 p2 p3) rfl (by kernel_rfl)
  · exact ofY (ry0_0_tfft_vvvv p0 p1 p2 p3 (kA k)) (my0_0_tfft_vvvv p0 p1 p2 p3) rfl (by kernel_rfl)
  · exact ofY (ry0_0_tftf_vvvv p0 p1 p2 p3 (kA k)) (my0_0_tftf_vvvv p0 p1 p2 p3) rfl (by kernel_rfl)
  · exact ofY (ry0_0_tftt_vvvv p0 p1 p2 p3 (kA k)) (my0_0_tftt_vvvv p0 p1 p2 p3) rfl (by kernel_rfl)
  · exact ofY (ry0_0_ttff_vvvv p0 p1 p2 p3 (kA k)) (my0_0_ttff_vvvv p0 p1 p2 p3) rfl (by kernel_rfl)
  · exact ofY (ry0_0_ttft_vvvv p0 p1 p2 p3 (kA k)) (my0_0_ttft_vvvv p0 p1 p2 p3) rfl (by kernel_rfl)
  · exact ofY (ry0_0_tttf_vvvv p0 p1 p2 p3 (kA k)) (my0_0_tttf_vvvv p0 p1 p2 p3) rfl (by kernel_rfl)
  · exact ofY (ry0_0_tttt_vvvv p0 p1 p2 p3 (kA k)) (my0_0_tttt_vvvv p0 p1 p2 p3) rfl (by kernel_rfl)
theorem ky3 (w0 w1 w2 w3 p0 p1 p2 p3 : Bool) (k : Nat) : StY k 3 (SS w0 w1 w2 w3 p0 p1 p2 p3) (SS w0 w1 w2 w3 p0 p1 p2 p3) := by
  cases w0 <;> cases w1 <;> cases w2 <;> cases w3
  · exact ofY (ry0_3_ffff_vvvv p0 p1 p2 p3 (kA k)) (my0_3_ffff_vvvv p0 p1 p2 p3) rfl (by kernel_rfl)
  · exact ofY (ry0_3_ffft_vvvv p0 p1 p2 p3 (kA k)) (my0_3_ffft_vvvv p0 p1 p2 p3) rfl (by kernel_rfl)
  · exact ofY (ry0_3_fftf_vvvv p0 p1 p2 p3 (kA k)) (my0_3_fftf_vvvv p0 p1 p2 p3) rfl (by kernel_rfl)
  · exact ofY (ry0_3_fftt_vvvv p0 p1 p2 p3 (kA k)) (my0_3_fftt_vvvv p0 p1 p2 p3) rfl (by kernel_rfl)
  · exact ofY (ry0_3_ftff_vvvv p0 p1 p2 p3 (kA k)) (my0_3_ftff_vvvv p0 p1 p2 p3) rfl (by kernel_rfl)
  · exact ofY (ry0_3_ftft_vvvv p0 p1 p2 p3 (kA k)) (my0_3_ftft_vvvv p0 p1 p2 p3) rfl (by kernel_rfl)
  · exact ofY (ry0_3_fttf_vvvv p0 p1 p2 p3 (kA k)) (my0_3_fttf_vvvv p0 p1 p2 p3) rfl (by kernel_rfl)
  · exact ofY (ry0_3_fttt_vvvv p0 p1 p2 p3 (kA k)) (my0_3_fttt_vvvv p0 p1 p2 p3) rfl (by kernel_rfl)
  · exact ofY (ry0_3_tfff_vvvv p0 p1 p2 p3 (kA k)) (my0_3_tfff_vvvv p0 p1 p2 p3) rfl (by kernel_rfl)
  · exact ofY (ry0_3_tfft_vvvv p0 p1 p2 p3 (kA k)) (my0_3_tfft_vvvv p0 p1 p2 p3) rfl (by kernel_rfl)
  · exact ofY (ry0_3_tftf_vvvv p0 p1 p2 p3 (kA k)) (my0_3_tftf_vvvv p0 p1 p2 p3) rfl (by kernel_rfl)
  · exact ofY (ry0_3_tftt_vvvv p0 p1 p2 p3 (kA k)) (my0_3_tftt_vvvv p0 p1 p2 p3) rfl (by kernel_rfl)
  · exact ofY (ry0_3_ttff_vvvv p0 p1 p2 p3 (kA k)) (my0_3_ttff_vvvv p0 p1 p2 p3) rfl (by kernel_rfl)
  · exact ofY (ry0_3_ttft_vvvv p0 p1 p2 p3 (kA k)) (my0_3_ttft_vvvv p0 p1 p2 p3) rfl (by kernel_rfl)
  · exact ofY (ry0_3_tttf_vvvv p0 p1 p2 p3 (kA k)) (my0_3_tttf_vvvv p0 p1 p2 p3) rfl (by kernel_rfl)
  · exact ofY (ry0_3_tttt_vvvv p0 p1 p2 p3 (kA k)) (my0_3_tttt_vvvv p0 p1 p2 p3) rfl (by kernel_rfl)
theorem other (how : Nat) (hh : 4 ≤ how ∧ how < 16) (w0 w1 w2 w3 p0 p1 p2 p3 : Bool) (k : Nat) : StY k how (SS w0 w1 w2 w3 p0 p1 p2 p3) (SS w0 w1 w2 w3 p0 p1 p2 p3) := by
  have : how = 4 ∨ how = 5 ∨ how = 6 ∨ how = 7 ∨ how = 8 ∨ how = 9 ∨ how = 10 ∨ how = 11 ∨ how = 12 ∨ how = 13 ∨ how = 14 ∨ how = 15 := by omega
  rcases this with rfl | rfl | rfl | rfl | rfl | rfl | rfl | rfl | rfl | rfl | rfl | rfl
  · exact ofY (yo4 w0 w1 w2 w3 p0 p1 p2 p3 (kA k)) (mo w0 w1 w2 w3 p0 p1 p2 p3) rfl (by kernel_rfl)
  · exact ofY (yo5 w0 w1 w2 w3 p0 p1 p2 p3 (kA k)) (mo w0 w1 w2 w3 p0 p1 p2 p3) rfl (by kernel_rfl)
  · exact ofY (yo6 w0 w1 w2 w3 p0 p1 p2 p3 (kA k)) (mo w0 w1 w2 w3 p0 p1 p2 p3) rfl (by kernel_rfl)
  · exact ofY (yo7 w0 w1 w2 w3 p0 p1 p2 p3 (kA k)) (mo w0 w1 w2 w3 p0 p1 p2 p3) rfl (by kernel_rfl)
  · exact ofY (yo8 w0 w1 w2 w3 p0 p1 p2 p3 (kA k)) (mo w0 w1 w2 w3 p0 p1 p2 p3) rfl (by kernel_rfl)
  · exact ofY (yo9 w0 w1 w2 w3 p0 p1 p2 p3 (kA k)) (mo w0 w1 w2 w3 p0 p1 p2 p3) rfl (by kernel_rfl)
  · exact ofY (yo10 w0 w1 w2 w3 p0 p1 p2 p3 (kA k)) (mo w0 w1 w2 w3 p0 p1 p2 p3) rfl (by kernel_rfl)
  · exact ofY (yo11 w0 w1 w2 w3 p0 p1 p2 p3 (kA k)) (mo w0 w1 w2 w3 p0 p1 p2 p3) rfl (by kernel_rfl)
  · exact ofY (yo12 w0 w1 w2 w3 p0 p1 p2 p3 (kA k)) (mo w0 w1 w2 w3 p0 p1 p2 p3) rfl (by kernel_rfl)
  · exact ofY (yo13 w0 w1 w2 w3 p0 p1 p2 p3 (kA k)) (mo w0 w1 w2 w3 p0 p1 p2 p3) rfl (by kernel_rfl)
  · exact ofY (yo14 w0 w1 w2 w3 p0 p1 p2 p3 (kA k)) (mo w0 w1 w2 w3 p0 p1 p2 p3) rfl (by kernel_rfl)
  · exact ofY (yo15 w0 w1 w2 w3 p0 p1 p2 p3 (kA k)) (mo w0 w1 w2 w3 p0 p1 p2 p3) rfl (by kernel_rfl)

theorem selZ {k : Nat} (hk : k < 4) (w p : Nat → Bool) : ∃ w' p', StZ k (SSf w p) (SSf w' p') := by
  refine ⟨upW w k true, p, ?_⟩
  match k, hk with
  | 0, _ => exact kz0 (w 0) (w 1) (w 2) (w 3) (p 0) (p 1) (p 2) (p 3)
  | 1, _ => exact kz1 (w 0) (w 1) (w 2) (w 3) (p 0) (p 1) (p 2) (p 3)
  | 2, _ => exact kz2 (w 0) (w 1) (w 2) (w 3) (p 0) (p 1) (p 2) (p 3)
  | 3, _ => exact kz3 (w 0) (w 1) (w 2) (w 3) (p 0) (p 1) (p 2) (p 3)
  | n + 4, h => exact absurd h (by omega)
theorem selY {k how : Nat} (hk : k < 4) (hh : how < 16) (w p : Nat → Bool) : ∃ g, StY k how (SSf w p) g ∧ ∃ w' p', StZ k g (SSf w' p') := by
  have hk' : k = 0 ∨ k = 1 ∨ k = 2 ∨ k = 3 := by omega
  have hh' : how = 0 ∨ how = 1 ∨ how = 2 ∨ how = 3 ∨ how = 4 ∨ how = 5 ∨ how = 6 ∨ how = 7 ∨ how = 8 ∨ how = 9 ∨ how = 10 ∨ how = 11 ∨ how = 12 ∨ how = 13 ∨ how = 14 ∨ how = 15 := by omega
  rcases hh' with rfl | rfl | rfl | rfl | rfl | rfl | rfl | rfl | rfl | rfl | rfl | rfl | rfl | rfl | rfl | rfl
  · exact ⟨_, ky0 (w 0) (w 1) (w 2) (w 3) (p 0) (p 1) (p 2) (p 3) k, selZ hk (fun _ => false) p⟩
  · rcases hk' with rfl | rfl | rfl | rfl
    · exact ⟨_, ky1_0 (w 0) (w 1) (w 2) (w 3) (p 0) (p 1) (p 2) (p 3), selZ hk (upW w 0 false) p⟩
    · exact ⟨_, ky1_1 (w 0) (w 1) (w 2) (w 3) (p 0) (p 1) (p 2) (p 3), selZ hk (upW w 1 false) p⟩
    · exact ⟨_, ky1_2 (w 0) (w 1) (w 2) (w 3) (p 0) (p 1) (p 2) (p 3), selZ hk (upW w 2 false) p⟩
    · exact ⟨_, ky1_3 (w 0) (w 1) (w 2) (w 3) (p 0) (p 1) (p 2) (p 3), selZ hk (upW w 3 false) p⟩
  · rcases hk' with rfl | rfl | rfl | rfl
    · exact ⟨_, ky2_0 (w 0) (w 1) (w 2) (w 3) (p 0) (p 1) (p 2) (p 3), upW w 0 true, upW p 0 true, ko0 (w 0) (w 1) (w 2) (w 3) (p 0) (p 1) (p 2) (p 3)⟩
    · exact ⟨_, ky2_1 (w 0) (w 1) (w 2) (w 3) (p 0) (p 1) (p 2) (p 3), upW w 1 true, upW p 1 true, ko1 (w 0) (w 1) (w 2) (w 3) (p 0) (p 1) (p 2) (p 3)⟩
    · exact ⟨_, ky2_2 (w 0) (w 1) (w 2) (w 3) (p 0) (p 1) (p 2) (p 3), upW w 2 true, upW p 2 true, ko2 (w 0) (w 1) (w 2) (w 3) (p 0) (p 1) (p 2) (p 3)⟩
    · exact ⟨_, ky2_3 (w 0) (w 1) (w 2) (w 3) (p 0) (p 1) (p 2) (p 3), upW w 3 true, upW p 3 true, ko3 (w 0) (w 1) (w 2) (w 3) (p 0) (p 1) (p 2) (p 3)⟩
  · exact ⟨_, ky3 (w 0) (w 1) (w 2) (w 3) (p 0) (p 1) (p 2) (p 3) k, selZ hk w p⟩
  · exact ⟨_, other 4 (by omega) (w 0) (w 1) (w 2) (w 3) (p 0) (p 1) (p 2) (p 3) k, selZ hk w p⟩
  · exact ⟨_, other 5 (by omega) (w 0) (w 1) (w 2) (w 3) (p 0) (p 1) (p 2) (p 3) k, selZ hk w p⟩
  · exact ⟨_, other 6 (by omega) (w 0) (w 1) (w 2) (w 3) (p 0) (p 1) (p 2) (p 3) k, selZ hk w p⟩
  · exact ⟨_, other 7 (by omega) (w 0) (w 1) (w 2) (w 3) (p 0) (p 1) (p 2) (p 3) k, selZ hk w p⟩
  · exact ⟨_, other 8 (by omega) (w 0) (w 1) (w 2) (w 3) (p 0) (p 1) (p 2) (p 3) k, selZ hk w p⟩
  · exact ⟨_, other 9 (by omega) (w 0) (w 1) (w 2) (w 3) (p 0) (p 1) (p 2) (p 3) k, selZ hk w p⟩
  · exact ⟨_, other 10 (by omega) (w 0) (w 1) (w 2) (w 3) (p 0) (p 1) (p 2) (p 3) k, selZ hk w p⟩
  · exact ⟨_, other 11 (by omega) (w 0) (w 1) (w 2) (w 3) (p 0) (p 1) (p 2) (p 3) k, selZ hk w p⟩
  · exact ⟨_, other 12 (by omega) (w 0) (w 1) (w 2) (w 3) (p 0) (p 1) (p 2) (p 3) k, selZ hk w p⟩
  · exact ⟨_, other 13 (by omega) (w 0) (w 1) (w 2) (w 3) (p 0) (p 1) (p 2) (p 3) k, selZ hk w p⟩
  · exact ⟨_, other 14 (by omega) (w 0) (w 1) (w 2) (w 3) (p 0) (p 1) (p 2) (p 3) k, selZ hk w p⟩
  · exact ⟨_, other 15 (by omega) (w 0) (w 1) (w 2) (w 3) (p 0) (p 1) (p 2) (p 3) k, selZ hk w p⟩
end Go.Proofs.YtmjogmpgamlhaaaGreat
