import Derived.Test.YtndbccpaccflcaaGreatTW12a
import Derived.Maps.AppendAt
set_option linter.unusedVariables false
set_option linter.unusedSimpArgs false
set_option linter.unusedSectionVars false
namespace Go.Proofs.YtndbccpaccflcaaGreat
open Go Go.RowKit Go.Tw Go.Lib

theorem cells_new {w : World} {cs : List Value} {t : Nat} : ∀ j u, cs[j]? = some u → (w.alloc (.cells cs.toArray t)).cell? ((⟨w.heap.size, 0, none⟩ : Addr).add j) = some u := by
  intro j u hj
  rw [Addr.add_lit]
  have h : (w.alloc (.cells cs.toArray t)).heap[w.heap.size]? = some (.cells cs.toArray t) := by
    show (w.heap.push _)[w.heap.size]? = _
    rw [Array.getElem?_push, if_pos rfl]
  rw [cell_of h]
  simpa using hj

theorem cells_one (s : St) {f : Value} (hf : f.oneCell' = true) : ∀ u ∈ s.cells f, u.oneCell' = true := by
  have := flat_one [s] [f] (by simpa using hf)
  intro u hu
  exact this u (by simpa [flat] using hu)

def Fine (s : St) : Prop := (Lit.int .i64 s.page).wf = true ∧ s.fails.length ≤ 40 ∧ (Lit.int .u64 s.value).wf = true

theorem Act_calls {B : Nat} {w : World} {s : St} {fa : Option Addr} {fn fc : Nat} (hfn : s.fails.length = fn) (hb : fn ≤ 1000000) (hfc : fn ≤ fc) (hBw : B ≤ w.heap.size) (hF : Bools B w (.slice fa fn fc) s.fails) (hval : (Lit.int .u64 s.value).wf = true)
    (hW : ∀ (n v : Int) w1, 0 ≤ n → n < 4 → ∃ u : Int, (Lit.int .u64 u).wf = true ∧ Calls Tryz.prog 24 #[.int .i64 n, .int .u64 v] w1 fun e w' => e = .returned (.int .u64 u) ∧ Below w1.heap.size w1 w') :
    Calls Tryz.prog 15 #[s.val (.slice fa fn fc)] w fun e w' => ∃ (s' : St) (f' : Value), e = .returned (s'.val f') ∧ Below w.heap.size w w' ∧ Bools w'.heap.size w' f' s'.fails ∧ Fine s' ∧ ∀ g, f'.ownBlock = some g → w.heap.size ≤ g :=
  (Act_any s fa fn fc B w hfn hb hfc hBw hF hval hW).mono fun _ _ ⟨s', f', h1, h2, h3, h4, h5, h6, h7⟩ => ⟨s', f', h1, h2, h3, ⟨h5, by omega, h6⟩, h7⟩

/-- The block of a slice that is not empty. -/
def ownF : Value → Option Nat
  | .slice _ 0 _ => none
  | v => v.ownBlock

theorem ownF_own {v : Value} {g : Nat} (h : ownF v = some g) : v.ownBlock = some g := by
  unfold ownF at h
  split at h
  · cases h
  · exact h

theorem Bools_same {B : Nat} {w w' : World} {v : Value} {l : List Bool} (h : Bools B w v l) (hb : ∀ g, ownF v = some g → w'.heap[g]? = w.heap[g]?) : Bools B w' v l := by
  obtain ⟨a, cap, rfl, h3⟩ := h
  refine ⟨a, cap, rfl, ?_⟩
  rcases h3 with h3 | ⟨b, off, rfl, hB, hc⟩
  · exact .inl h3
  · cases l with
    | nil => exact .inl rfl
    | cons y l => exact .inr ⟨b, off, rfl, hB, fun j u hj => by rw [World.cell?_of_block (hb b rfl)]; exact hc j u hj⟩

theorem Bools_lt {B : Nat} {w : World} {v : Value} {l : List Bool} (h : Bools B w v l) {g : Nat} (hg : ownF v = some g) : g < B := by
  obtain ⟨a, cap, rfl, h3⟩ := h
  rcases h3 with rfl | ⟨b, off, rfl, hB, _⟩
  · cases hg
  · have hg := ownF_own hg
    simp only [Value.ownBlock, Option.some.injEq] at hg
    omega

theorem ownsRow_below {w w' : World} {base e size n : Nat} {v : Value} {xs : List Value} (h : w.ownsRow base e size v n xs) (hb : Below w.heap.size w w') : w'.ownsRow base e size v n xs := by
  refine h.kept (row := none) ⟨hb.os, hb.tape, hb.output, hb.size, fun k hk _ => hb.block k hk⟩ ?_
  cases v.ownBlock with
  | none => exact .inl rfl
  | some g => exact .inr (by simp)

/-- One step more behind a row of steps, in the world that the append leaves. -/
theorem more {w0 w5 : World} {base k : Nat} {va : Option Addr} {vc : Nat} {v' : Value} {o : List St} {gs : List Value} {s : St} {f : Value} (ho : o.length = k) (hgs : gs.length = k)
    (hR : w0.ownsRow base 31 12 (.slice va k vc) k (flat o gs)) (hBo : ∀ (i : Nat) (s : St) (f : Value), o[i]? = some s → gs[i]? = some f → Bools w0.heap.size w0 f s.fails)
    (hapart : ∀ f ∈ gs, ∀ g g', ownF f = some g → (Value.slice va k vc).ownBlock = some g' → g ≠ g')
    (hf : Bools w0.heap.size w0 f s.fails) (hfa : ∀ g g', ownF f = some g → (Value.slice va k vc).ownBlock = some g' → g ≠ g')
    (hown : w5.ownsRow base 31 12 v' (k + 1) (flat o gs ++ s.cells f)) (hgrow : w0.grownBy w5 (Value.slice va k vc).ownBlock) (hloc : v'.ownBlock = (Value.slice va k vc).ownBlock ∨ ∃ g, v'.ownBlock = some g ∧ w0.heap.size ≤ g) :
    ∃ (va' : Option Addr) (vc' : Nat), v' = .slice va' (k + 1) vc' ∧ ∃ (o' : List St) (gs' : List Value), o'.length = k + 1 ∧ gs'.length = k + 1 ∧ w5.ownsRow base 31 12 (.slice va' (k + 1) vc') (k + 1) (flat o' gs') ∧
      (∀ (i : Nat) (s : St) (f : Value), o'[i]? = some s → gs'[i]? = some f → Bools w5.heap.size w5 f s.fails) ∧ (∀ f ∈ gs', ∀ g g', ownF f = some g → (Value.slice va' (k + 1) vc').ownBlock = some g' → g ≠ g') ∧ o' = o ++ [s] := by
  obtain ⟨va', vc', rfl⟩ : ∃ va' vc', v' = .slice va' (k + 1) vc' := by
    rcases hown.2 with ⟨rfl, h0⟩ | ⟨gb, gc, cur, rfl, _⟩
    · omega
    · exact ⟨_, _, rfl⟩
  have hkeep : ∀ (f : Value) (l : List Bool), Bools w0.heap.size w0 f l → (∀ g g', ownF f = some g → (Value.slice va k vc).ownBlock = some g' → g ≠ g') → Bools w5.heap.size w5 f l := by
    intro f l h1 h2
    refine (Bools_same h1 fun g hg => hgrow.block g (Bools_lt h1 hg) ?_).up hgrow.size
    intro e
    exact h2 g g hg e.symm rfl
  have hbl : ∀ (f : Value) (l : List Bool), Bools w0.heap.size w0 f l → (∀ g g', ownF f = some g → (Value.slice va k vc).ownBlock = some g' → g ≠ g') → ∀ g g', ownF f = some g → (Value.slice va' (k + 1) vc').ownBlock = some g' → g ≠ g' := by
    intro f l h1 h2 g g' e1 e2
    rcases hloc with h | ⟨g2, h, h3⟩
    · exact h2 g g' e1 (h ▸ e2)
    · rw [h] at e2
      simp only [Option.some.injEq] at e2
      have := Bools_lt h1 e1
      omega
  have hall : ∀ (i : Nat) (s' : St) (f' : Value), (o ++ [s])[i]? = some s' → (gs ++ [f])[i]? = some f' → Bools w0.heap.size w0 f' s'.fails ∧ ∀ g g', ownF f' = some g → (Value.slice va k vc).ownBlock = some g' → g ≠ g' := by
    intro i s' f' h1 h2
    by_cases hi : i < k
    · rw [List.getElem?_append_left (by omega)] at h1 h2
      exact ⟨hBo i s' f' h1 h2, hapart f' (List.mem_of_getElem? h2)⟩
    · rw [List.getElem?_append_right (by omega)] at h1 h2
      have : i - o.length = 0 := by
        rcases Nat.eq_zero_or_pos (i - o.length) with h | h
        · exact h
        · rw [List.getElem?_eq_none (by simp; omega)] at h1; cases h1
      have h' : i - gs.length = 0 := by omega
      rw [this] at h1
      rw [h'] at h2
      simp at h1 h2
      subst h1 h2
      exact ⟨hf, hfa⟩
  refine ⟨va', vc', rfl, o ++ [s], gs ++ [f], by simp [ho], by simp [hgs], ?_, fun i s' f' h1 h2 => hkeep f' _ (hall i s' f' h1 h2).1 (hall i s' f' h1 h2).2, fun f' hf' => ?_, rfl⟩
  · rw [flat_append o gs [s] [f] (by omega)]
    simpa [flat] using hown
  · obtain ⟨i, hi, rfl⟩ := List.getElem_of_mem hf'
    have hi' : i < (o ++ [s]).length := by simp at hi ⊢; omega
    have := hall i _ _ (List.getElem?_eq_getElem hi') (List.getElem?_eq_getElem hi)
    exact hbl _ _ this.1 this.2

theorem more2 {a wr w5 : World} {ob : Obj} {base k : Nat} {va : Option Addr} {vc : Nat} {v' : Value} {o : List St} {gs : List Value} {s : St} {f : Value} (ho : o.length = k) (hgs : gs.length = k) (hB : Below base a wr) (hbase : base ≤ wr.heap.size)
    (hR : wr.ownsRow base 31 12 (.slice va k vc) k (flat o gs)) (hBo : ∀ (i : Nat) (s : St) (f : Value), o[i]? = some s → gs[i]? = some f → Bools wr.heap.size wr f s.fails)
    (hapart : ∀ f ∈ gs, ∀ g g', ownF f = some g → (Value.slice va k vc).ownBlock = some g' → g ≠ g')
    (hf : Bools wr.heap.size wr f s.fails) (hfa : ∀ g g', ownF f = some g → (Value.slice va k vc).ownBlock = some g' → g ≠ g')
    (hown : w5.ownsRow base 31 12 v' (k + 1) (flat o gs ++ s.cells f)) (hgrow : (wr.alloc ob).grownBy w5 (Value.slice va k vc).ownBlock) (hloc : v'.ownBlock = (Value.slice va k vc).ownBlock ∨ v'.ownBlock = some (wr.alloc ob).heap.size) :
    Below base a w5 ∧ ∃ (va' : Option Addr) (vc' : Nat), v' = .slice va' (k + 1) vc' ∧ ∃ (o' : List St) (gs' : List Value), o'.length = k + 1 ∧ gs'.length = k + 1 ∧ w5.ownsRow base 31 12 (.slice va' (k + 1) vc') (k + 1) (flat o' gs') ∧
      (∀ (i : Nat) (s : St) (f : Value), o'[i]? = some s → gs'[i]? = some f → Bools w5.heap.size w5 f s.fails) ∧ (∀ f ∈ gs', ∀ g g', ownF f = some g → (Value.slice va' (k + 1) vc').ownBlock = some g' → g ≠ g') ∧ o' = o ++ [s] := by
  have hal : Below wr.heap.size wr (wr.alloc ob) := (Below.refl _ _).alloc (Nat.le_refl _) _
  have hsz : wr.heap.size ≤ (wr.alloc ob).heap.size := hal.size
  exact ⟨(hB.alloc hbase ob).grown hgrow (Nat.le_trans hbase hsz) (fun j hj => (hR.lt j hj).1),
    more ho hgs (hR.alloc ob) (fun i s f h1 h2 => ((hBo i s f h1 h2).below hal).up hsz) hapart ((hf.below hal).up hsz) hfa hown hgrow (hloc.imp id fun h => ⟨_, h, Nat.le_refl _⟩)⟩

set_option maxRecDepth 100000 in
set_option maxHeartbeats 1000000 in
theorem few_any (x : Option Addr) (n c B : Nat) (l : List St) (fs : List Value) (raw : Bool) (w : World) (hn : l.length = n) (hbig : n ≤ 9223372036854775807) (hBw : B ≤ w.heap.size)
    (hx : StepsF B w (.slice x n c) l fs) (hok : ∀ s ∈ l, (Lit.int .i64 s.page).wf = true ∧ (Lit.int .u64 s.value).wf = true) (hcap : ∀ f ∈ fs, ∀ a n c, f = .slice a n c → n ≤ c) (hlen : ∀ s ∈ l, s.fails.length ≤ 9223372036854775807)
    (hW : ∀ (n v : Int) w1, 0 ≤ n → n < 4 → ∃ u : Int, (Lit.int .u64 u).wf = true ∧ Calls Tryz.prog 24 #[.int .i64 n, .int .u64 v] w1 fun e w' => e = .returned (.int .u64 u) ∧ Below w1.heap.size w1 w') :
    Calls Tryz.prog 5 #[.slice x n c, .bool raw] w fun e w' => ∃ (r : Value) (ok : Bool), e = .returned (.tuple #[r, .bool ok]) ∧ Below w.heap.size w w' ∧
      (ok = true → ∃ o gs, StepsF w'.heap.size w' r o gs ∧ o.length ≤ 60 ∧ ∀ s ∈ o, Fine s) := by
  have HX : Aside (StepsF B w (.slice x n c) l fs) := hx
  have OK : Aside (∀ s ∈ l, (Lit.int .i64 s.page).wf = true ∧ (Lit.int .u64 s.value).wf = true) := hok
  have HC : Aside (∀ f ∈ fs, ∀ a n c, f = .slice a n c → n ≤ c) := hcap
  have HLN : Aside (∀ s ∈ l, s.fails.length ≤ 9223372036854775807) := hlen
  have HW : Aside (∀ (n v : Int) w1, 0 ≤ n → n < 4 → ∃ u : Int, (Lit.int .u64 u).wf = true ∧ Calls Tryz.prog 24 #[.int .i64 n, .int .u64 v] w1 fun e w' => e = .returned (.int .u64 u) ∧ Below w1.heap.size w1 w') := hW
  obtain ⟨i0, hi0, hz⟩ := Option.map_eq_some_iff.1 info31
  simp only [Prod.mk.injEq] at hz
  obtain ⟨hz0, hz1, hz2⟩ := hz
  clear hx hok hcap hW hlen
  go_enter Tryz.func5, Tryz.ntmps5
  go_wp2
  go_loopw [6, 7] (fun v i wr => ∃ k : Nat, k ≤ n ∧ k ≤ 60 ∧ i = .int .i64 k ∧ Below w.heap.size w wr ∧ ∃ (va : Option Addr) (vc : Nat), v = .slice va k vc ∧ ∃ (o : List St) (gs : List Value), o.length = k ∧ gs.length = k ∧
      wr.ownsRow w.heap.size 31 12 (.slice va k vc) k (flat o gs) ∧ (∀ (i : Nat) (s : St) (f : Value), o[i]? = some s → gs[i]? = some f → Bools wr.heap.size wr f s.fails) ∧ (∀ f ∈ gs, ∀ g g', ownF f = some g → (Value.slice va k vc).ownBlock = some g' → g ≠ g') ∧ ∀ s ∈ o, Fine s)
    (fun _ i _ => n - (RowKit.intOf i).toNat)
  case atStart => exact ⟨0, Nat.zero_le _, Nat.zero_le _, rfl, Below.refl _ _, none, 0, rfl, [], [], rfl, rfl, World.ownsRow_nil _ _ _ _, fun i s f h => by simp at h, fun f h => by simp at h, fun s h => by simp at h⟩
  case round =>
    obtain ⟨k, hk, hk60, rfl, hbl, va, vc, rfl, o, gs, ho, hgs, hrow, hbo, hap, hfine⟩ := hrel
    have HB : Aside (Below w.heap.size w wr) := hbl
    have HR : Aside (wr.ownsRow w.heap.size 31 12 (.slice va k vc) k (flat o gs)) := hrow
    have HO : Aside (∀ (i : Nat) (s : St) (f : Value), o[i]? = some s → gs[i]? = some f → Bools wr.heap.size wr f s.fails) := hbo
    have HFN : Aside (∀ s ∈ o, Fine s) := hfine
    have HAP : Aside (∀ f ∈ gs, ∀ g g', ownF f = some g → (Value.slice va k vc).ownBlock = some g' → g ≠ g') := hap
    clear hbl hrow hbo hfine hap
    by_cases hlt : k < n ∧ k < 60
    · obtain ⟨hlt, hlt60⟩ := hlt
      obtain ⟨s, hs⟩ : ∃ s, l[k]? = some s := ⟨_, List.getElem?_eq_getElem (by omega)⟩
      obtain ⟨b, off, rfl⟩ : ∃ b o, x = some ⟨b, o, none⟩ := by
        obtain ⟨a, cap, he, hne⟩ := HX.out.shape
        cases he
        exact hne (by intro h; rw [h] at hs; simp at hs)
      obtain ⟨f, hf⟩ : ∃ f, fs[k]? = some f := ⟨_, List.getElem?_eq_getElem (by have := HX.out.1; omega)⟩
      obtain ⟨hb, hat⟩ := HX.out.at hs hf
      have hbf : Bools B wr f s.fails := (HX.out.2.1 k s f hs hf).below (HB.out.mono hBw)
      obtain ⟨c0, c1, c2, c3, c4, c5, c6, c7, c8, c9, c10, c11⟩ := hat.below HB.out (by omega)
      obtain ⟨fa, fc, rfl⟩ := Bools.shape hbf
      have HBF : Aside (Bools B wr (.slice fa s.fails.length fc) s.fails) := hbf
      have HCP : Aside (s.fails.length ≤ fc) := HC.out _ (List.mem_of_getElem? hf) _ _ _ rfl
      have HPW : Aside ((Lit.int .i64 s.page).wf = true ∧ (Lit.int .u64 s.value).wf = true) := OK.out s (List.mem_of_getElem? hs)
      have hfl : s.fails.length ≤ 9223372036854775807 := HLN.out s (List.mem_of_getElem? hs)
      have hi : (k : Int) < (n : Int) := by omega
      have hi6 : (k : Int) < (60 : Int) := by omega
      clear hs hf hat hbf
      by_cases h40 : 40 < s.fails.length
      · have hh : (40 : Int) < (s.fails.length : Int) := by omega
        go_wp2
        go_ret2
        exact ⟨_, _, rfl, HB.out, fun h => by cases h⟩
      · have hh : ¬ (40 : Int) < (s.fails.length : Int) := by omega
        cases raw with
        | true =>
          go_wp2_with (at_builtin; refine wpList_append_own_at _ rfl _ _ 22 rfl w.heap.size 31 i0 _ 12 112 Tryz.underlying22 hi0 hz0 hz1 hz2 rfl (by decide) _ k _ rfl (HR.out.alloc _) ⟨wr.heap.size, 0, none⟩ 1 1 (s.cells (.slice fa s.fails.length fc)) rfl rfl cells_new (cells_one s rfl) (by unfold maxLen; omega) (by omega) (by have := HB.out.size; simp; omega) ?_; intro v' w5 hown' hgrow hnil hloc)
          go_roundw
          case rel =>
            have hf0 : ∀ g g', ownF (Value.slice fa s.fails.length fc) = some g → (Value.slice va k vc).ownBlock = some g' → g ≠ g' := fun g g' h1 h2 => by have := Bools_lt HBF.out h1; have := (HR.out.lt g' h2).1; omega
            have hbf0 : Bools wr.heap.size wr (.slice fa s.fails.length fc) s.fails := HBF.out.up (Nat.le_trans hBw HB.out.size)
            obtain ⟨e0, va', vc', rfl, o', gs', e1, e2, e3, e4, e5, e6⟩ := more2 ho hgs HB.out HB.out.size HR.out HO.out HAP.out hbf0 hf0 hown' hgrow hloc
            refine ⟨k + 1, by omega, by omega, by go_num, e0, va', vc', rfl, o', gs', e1, e2, e3, e4, e5, fun s' hs' => ?_⟩
            rw [e6, List.mem_append] at hs'
            rcases hs' with h | h
            · exact HFN.out s' h
            · simp only [List.mem_singleton] at h
              subst h
              exact ⟨HPW.out.1, by omega, HPW.out.2⟩
          case measure => simp [RowKit.intOf]; omega
        | false =>
          have HACT : Aside (Calls Tryz.prog 15 #[s.val (.slice fa s.fails.length fc)] wr fun e w' => ∃ (s' : St) (f' : Value), e = .returned (s'.val f') ∧ Below wr.heap.size wr w' ∧ Bools w'.heap.size w' f' s'.fails ∧ Fine s' ∧ ∀ g, f'.ownBlock = some g → wr.heap.size ≤ g) :=
            Act_calls rfl (by omega) HCP.out (Nat.le_trans hBw HB.out.size) HBF.out HPW.out.2 HW.out
          unfold St.val at HACT
          go_wp2_with (first
            | (go_at_call 15; refine HACT.out.mono ?_; rintro e w3 ⟨s', f', rfl, hw3, hbf', hfine', hnew⟩; obtain ⟨ga, gc, rfl⟩ := Bools.shape hbf'; have HB3 := (show Aside (Below wr.heap.size wr w3) from hw3); have HBF3 := (show Aside (Bools w3.heap.size w3 (.slice ga s'.fails.length gc) s'.fails) from hbf'); have HFI := (show Aside (Fine s') from hfine'); have HNW := (show Aside (∀ g, (Value.slice ga s'.fails.length gc).ownBlock = some g → wr.heap.size ≤ g) from hnew); have HR3 := (show Aside (w3.ownsRow w.heap.size 31 12 (.slice va k vc) k (flat o gs)) from ownsRow_below HR.out HB3.out); clear hw3 hbf' hfine' hnew)
            | (at_builtin; refine wpList_append_own_at _ rfl _ _ 22 rfl w.heap.size 31 i0 _ 12 112 Tryz.underlying22 hi0 hz0 hz1 hz2 rfl (by decide) (.slice va k vc) k (flat o gs) rfl (World.ownsRow.alloc HR3.out _) ⟨w3.heap.size, 0, none⟩ 1 1 (s'.cells (.slice ga s'.fails.length gc)) rfl (by rfl) cells_new (cells_one s' rfl) (by unfold maxLen; omega) (by omega) (by have := HB.out.size; have := HB3.out.size; simp; omega) ?_; intro v' w5 hown' hgrow hnil hloc))
          go_roundw
          case rel =>
            have hW3 : Below w.heap.size w w3 := HB.out.trans (HB3.out.mono HB.out.size)
            have hf0 : ∀ g g', ownF (Value.slice ga s'.fails.length gc) = some g → (Value.slice va k vc).ownBlock = some g' → g ≠ g' := fun g g' h1 h2 => by have := HNW.out g (ownF_own h1); have := (HR.out.lt g' h2).2; omega
            have hR3 := ownsRow_below HR.out HB3.out
            have hO3 : ∀ (i : Nat) (s : St) (f : Value), o[i]? = some s → gs[i]? = some f → Bools w3.heap.size w3 f s.fails := fun i s f a b => ((HO.out i s f a b).below HB3.out).up HB3.out.size
            obtain ⟨e0, va', vc', rfl, o', gs', e1, e2, e3, e4, e5, e6⟩ := more2 ho hgs hW3 hW3.size hR3 hO3 HAP.out HBF3.out hf0 hown' hgrow hloc
            refine ⟨k + 1, by omega, by omega, by go_num, e0, va', vc', rfl, o', gs', e1, e2, e3, e4, e5, fun s'' hs' => ?_⟩
            rw [e6, List.mem_append] at hs'
            rcases hs' with h | h
            · exact HFN.out s'' h
            · simp only [List.mem_singleton] at h
              subst h
              exact HFI.out
          case measure => simp [RowKit.intOf]; omega
    · have hge : n ≤ k ∨ 60 ≤ k := by omega
      have hexit : (decide ((k : Int) < (n : Int)) && decide ((k : Int) < 60)) = false := by simp; omega
      rcases hge with hge | hge
      · have hk2 : k = n := by omega
        go_wp2
        go_ret2
        exact ⟨_, true, rfl, HB.out, fun _ => ⟨o, gs, StepsF.owned HR.out (by omega) HO.out, by omega, HFN.out⟩⟩
      · by_cases hlt2 : k < n
        · go_wp2
          go_ret2
          exact ⟨_, true, rfl, HB.out, fun _ => ⟨o, gs, StepsF.owned HR.out (by omega) HO.out, by omega, HFN.out⟩⟩
        · go_wp2
          go_ret2
          exact ⟨_, true, rfl, HB.out, fun _ => ⟨o, gs, StepsF.owned HR.out (by omega) HO.out, by omega, HFN.out⟩⟩
end Go.Proofs.YtndbccpaccflcaaGreat
