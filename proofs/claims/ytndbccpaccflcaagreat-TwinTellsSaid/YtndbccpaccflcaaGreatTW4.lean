import Derived.Test.YtndbccpaccflcaaGreatProg
import Derived.Test.YtndbccpaccflcaaGreatTS1
import Derived.Test.YtndbccpaccflcaaGreatTW3
set_option linter.unusedVariables false
set_option linter.unusedSimpArgs false
set_option linter.unusedSectionVars false
namespace Go.Proofs.YtndbccpaccflcaaGreat
open Go Go.RowKit Go.Tw Go.Lib Go.Maps

theorem zero4 (w : World) : (zeroValue 4).run Tryz.prog w = .ok (.bool false) w := by kernel_rfl

theorem own_step {l : List St} {k : Nat} {s : St} (h : l[k]? = some s) (g p : Int) : own (l.take (k + 1)) g p = (own (l.take k) g p || (s.kind == 15 && s.guest == g && s.page == p)) := by
  unfold own
  rw [List.take_add_one, h]
  simp
theorem others_step {l : List St} {k : Nat} {s : St} (h : l[k]? = some s) (g p : Int) : others (l.take (k + 1)) g p = (others (l.take k) g p || (s.kind == 15 && !(s.guest == g) && s.page == p)) := by
  unfold others
  rw [List.take_add_one, h]
  simp

set_option maxRecDepth 100000 in
set_option maxHeartbeats 1000000 in
theorem lent_any (b off cap : Nat) (l : List St) (fs : List Value) (g : Int) (w : World) (hbig : l.length ≤ 1000000) (hb : b < w.heap.size) (hne : l ≠ [])
    (hl : fs.length = l.length) (hsl : ∀ f ∈ fs, ∃ a n c, f = .slice a n c) (hc : ∀ i s f, l[i]? = some s → fs[i]? = some f → At w b (off + i * 12) s f) (hok : ∀ s ∈ l, (Lit.int .i64 s.page).wf = true) :
    Calls Tryz.prog 17 #[.slice (some ⟨b, off, none⟩) l.length cap, .int .i64 g] w fun e w' => e = .returned (.tuple #[.map (some w.heap.size), .map (some (w.heap.size + 1))]) ∧ Below w.heap.size w w' ∧
      Marks Tryz.prog 3 4 w' w.heap.size l.length (own l g) ∧ Marks Tryz.prog 3 4 w' (w.heap.size + 1) l.length (others l g) := by
  have hmm := @run_makeMap Tryz.prog
  have H : Aside (∀ i s f, l[i]? = some s → fs[i]? = some f → At w b (off + i * 12) s f) := hc
  have OK : Aside (∀ s ∈ l, (Lit.int .i64 s.page).wf = true) := hok
  have SL : Aside (∀ f ∈ fs, ∃ a n c, f = .slice a n c) := hsl
  clear hc hok hsl
  go_enter Tryz.func17, Tryz.ntmps17
  go_wp2
  go_loopw [12] (fun i wr => ∃ k : Nat, k ≤ l.length ∧ i = .int .i64 k ∧ Below w.heap.size w wr ∧ w.heap.size + 2 ≤ wr.heap.size ∧
      Marks Tryz.prog 3 4 wr w.heap.size k (own (l.take k) g) ∧ Marks Tryz.prog 3 4 wr (w.heap.size + 1) k (others (l.take k) g))
    (fun i _ => l.length - (RowKit.intOf i).toNat)
  case atStart =>
    refine ⟨0, Nat.zero_le _, rfl, ((Below.refl _ _).alloc (Nat.le_refl _) _).alloc (by simp) _, by simp, ?_, ?_⟩
    · exact ((Marks.made _ _ _ _).alloc _).iff fun _ => rfl
    · have := Marks.made Tryz.prog 3 4 (w.alloc (.map #[] 0))
      simp at this
      exact this.iff fun _ => rfl
  case round =>
    obtain ⟨k, hk, rfl, hnx, hsz, hm1, hm2⟩ := hrel
    by_cases hlt : k < l.length
    · obtain ⟨s, hs⟩ : ∃ s, l[k]? = some s := ⟨_, List.getElem?_eq_getElem hlt⟩
      obtain ⟨f, hf⟩ : ∃ f, fs[k]? = some f := ⟨_, List.getElem?_eq_getElem (by omega)⟩
      obtain ⟨fa, fn, fc, rfl⟩ := SL.out f (List.mem_of_getElem? hf)
      obtain ⟨c0, c1, c2, c3, c4, c5, c6, c7, c8, c9, c10, c11⟩ := (H.out k s _ hs hf).below hnx hb
      have hpw : Aside ((Lit.int .i64 s.page).wf = true) := OK.out s (List.mem_of_getElem? hs)
      have HB : Aside (Below w.heap.size w wr) := hnx
      have HM1 : Aside (Marks Tryz.prog 3 4 wr w.heap.size k (own (l.take k) g)) := hm1
      have HM2 : Aside (Marks Tryz.prog 3 4 wr (w.heap.size + 1) k (others (l.take k) g)) := hm2
      have HS : Aside (l[k]? = some s) := hs
      clear hnx hm1 hm2 hs hf
      have hi : (k : Int) < (l.length : Int) := by omega
      go_wp2_with (first
        | (at_mapUpdate; refine wpList_marks_put _ rfl _ _ _ 49 rfl 3 4 Tryz.underlying3 Tryz.underlying49 Tryz.underlying4 w.heap.size k _ rfl (HM1.out.alloc _) (by unfold maxLen; omega) _ rfl rfl hpw.out ?_; intro w1 hq1 hg1)
        | (at_mapUpdate; refine wpList_marks_put _ rfl _ _ _ 49 rfl 3 4 Tryz.underlying3 Tryz.underlying49 Tryz.underlying4 (w.heap.size + 1) k _ rfl (HM2.out.alloc _) (by unfold maxLen; omega) _ rfl rfl hpw.out ?_; intro w1 hq1 hg1))
      · have e1 : s.kind = 15 := by assumption
        have e2 : (s.guest == g) = true := by assumption
        go_roundw
        case rel =>
          refine ⟨k + 1, by omega, by go_num, (HB.out.alloc (by omega) _).grown hg1 (by simp <;> omega) (by intro j hj; cases hj; omega), Nat.le_trans (by simp <;> omega) hg1.size, hq1.iff fun p => ?_, ((HM2.out.mono (Nat.le_succ k)).alloc _).kept hg1 (by simp <;> omega) |>.iff fun p => ?_⟩
          · have hps : (p == s.page) = (s.page == p) := by rw [Bool.eq_iff_iff, beq_iff_eq, beq_iff_eq]; exact eq_comm
            rw [own_step HS.out, hps, show (s.kind == 15) = true from by rw [e1]; rfl, e2]
            simp only [Bool.true_and]
            exact Bool.or_comm _ _
          · rw [others_step HS.out]; simp [e1, e2]
        case measure => simp [RowKit.intOf]; omega
      · have e1 : s.kind = 15 := by assumption
        have e2 : (s.guest == g) = false := by assumption
        go_roundw
        case rel =>
          refine ⟨k + 1, by omega, by go_num, (HB.out.alloc (by omega) _).grown hg1 (by simp <;> omega) (by intro j hj; cases hj; omega), Nat.le_trans (by simp <;> omega) hg1.size, ((HM1.out.mono (Nat.le_succ k)).alloc _).kept hg1 (by simp) |>.iff fun p => ?_, hq1.iff fun p => ?_⟩
          · rw [own_step HS.out]; simp [e1, e2]
          · have hps : (p == s.page) = (s.page == p) := by rw [Bool.eq_iff_iff, beq_iff_eq, beq_iff_eq]; exact eq_comm
            rw [others_step HS.out, hps, show (s.kind == 15) = true from by rw [e1]; rfl, e2]
            simp only [Bool.not_false, Bool.true_and]
            exact Bool.or_comm _ _
        case measure => simp [RowKit.intOf]; omega
      · have e1 : (s.kind == 15) = false := by assumption
        go_roundw
        case rel =>
          refine ⟨k + 1, by omega, by go_num, HB.out.alloc (by omega) _, by simp <;> omega, ((HM1.out.mono (Nat.le_succ k)).alloc _).iff fun p => ?_, ((HM2.out.mono (Nat.le_succ k)).alloc _).iff fun p => ?_⟩
          · rw [own_step HS.out]; simp [e1]
          · rw [others_step HS.out]; simp [e1]
        case measure => simp [RowKit.intOf]; omega
    · have : k = l.length := by omega
      subst this
      rw [List.take_length] at hm1 hm2
      go_wp2
      go_ret2
      exact ⟨rfl, hnx, hm1, hm2⟩

theorem lent_none (a : Option Addr) (cap : Nat) (g : Int) (w : World) :
    Calls Tryz.prog 17 #[.slice a 0 cap, .int .i64 g] w fun e w' => e = .returned (.tuple #[.map (some w.heap.size), .map (some (w.heap.size + 1))]) ∧ Below w.heap.size w w' ∧
      Marks Tryz.prog 3 4 w' w.heap.size 0 (own [] g) ∧ Marks Tryz.prog 3 4 w' (w.heap.size + 1) 0 (others [] g) := by
  have hmm := @run_makeMap Tryz.prog
  go_enter Tryz.func17, Tryz.ntmps17
  go_wp2
  refine wp_loop_rounds 1 ?_
  rw [rounds_succ]
  go_wp2
  go_ret2
  refine ⟨rfl, ((Below.refl _ _).alloc (Nat.le_refl _) _).alloc (by simp) _, ?_, ?_⟩
  · exact ((Marks.made _ _ _ _).alloc _).iff fun _ => rfl
  · have := Marks.made Tryz.prog 3 4 (w.alloc (.map #[] 0))
    simp at this
    exact this.iff fun _ => rfl
end Go.Proofs.YtndbccpaccflcaaGreat

namespace Go.Proofs.YtndbccpaccflcaaGreat
open Go Go.RowKit Go.Tw Go.Lib Go.Maps

set_option maxRecDepth 100000 in
set_option maxHeartbeats 1000000 in
theorem varies_any (s : St) (fa : Option Addr) (fn fc : Nat) (g : Int) (b n : Nat) (M : Int → Bool) (w : World) (hm : Marks Tryz.prog 3 4 w b n M) (hw : (Lit.int .i64 s.page).wf = true) :
    Calls Tryz.prog 20 #[s.val (.slice fa fn fc), .int .i64 g, .map (some b)] w fun e w' => e = .returned (.bool (if s.kind == 2 || s.kind == 20 then !(s.guest == g) else if s.kind == 18 then !M s.page else false)) ∧ Below w.heap.size w w' := by
  have HM : Aside (Marks Tryz.prog 3 4 w b n M) := hm
  have HW : Aside ((Lit.int .i64 s.page).wf = true) := hw
  clear hm hw
  unfold St.val
  go_enter Tryz.func20, Tryz.ntmps20
  go_wp2_with (at_lookup; refine wpList_marks_lookup _ rfl _ _ 49 rfl 3 4 Tryz.underlying3 Tryz.underlying49 Tryz.underlying4 (zero4 _) b n M rfl (HM.out.alloc _) _ rfl HW.out ?_)
  all_goals go_ret
  all_goals refine ⟨?_, (Below.refl _ _).alloc (Nat.le_refl _) _⟩
  all_goals clear HM HW
  all_goals first | (simp [*]; done) | (simp [*]; rfl)
end Go.Proofs.YtndbccpaccflcaaGreat
