/- slices.Sort of up to twelve numbers that a slice of the call's own holds. -/
import Derived.Test.YtcdjgnpjapgoaaaGreatAL1
import Derived.Sort.WalkA
import Derived.Sort.OwnSortedInts
import Derived.OwnWalk
set_option linter.unusedVariables false
set_option linter.unusedSimpArgs false
set_option linter.unusedSectionVars false
namespace Go.Proofs.YtcdjgnpjapgoaaaGreat
open Go Go.RowKit Go.Lib Go.Proofs.YtcdjgnpjapgoaaaGreat.Dm Go.Sort Go.Proofs

theorem nanU_calls (x : Int) (w : World) : Calls Tryz.prog 403 #[.int .u64 x] w fun e w' => e = .returned (.bool false) ∧ w' = w := by
  go_enter Tryz.func403, Tryz.ntmps403
  go_wp2
  go_ret
  exact ⟨by simp, rfl⟩

set_option maxHeartbeats 1000000 in
theorem lessU_calls (x y : Int) (w : World) : Calls Tryz.prog 356 #[.int .u64 x, .int .u64 y] w fun e w' => e = .returned (.bool (Sort.ltInt x y)) ∧ w' = w := by
  go_enter Tryz.func356, Tryz.ntmps356
  go_wp2_with (go_at_call 403; refine (nanU_calls _ _).mono ?_; rintro e w' ⟨rfl, rfl⟩)
  go_ret
  exact ⟨rfl, rfl⟩

theorem insU_calls (blk off cap a b : Nat) (d : Array Int) (w : World) (hH : Holds (Value.int .u64) w blk off d) (hab : a ≤ b) (hb : b ≤ d.size) (hsz : d.size < 4611686018427387904) :
    Calls Tryz.prog 350 #[.slice (some ⟨blk, off, none⟩) d.size cap, .int .i64 a, .int .i64 b] w fun e w' =>
      e = .returned (.tuple #[]) ∧ ∃ n, w' = putRow (Value.int .u64) (Sort.ahead w n) blk off (Sort.insertionSort ltInt d a b) := by
  go_enter Tryz.func350, Tryz.ntmps350
  go_wp2
  go_loopw [6] (fun vi wr => ∃ (i n : Nat) (dk : Array Int), vi = .int .i64 i ∧ a < i ∧ i ≤ b + 1 ∧ dk.size = d.size ∧ wr = putRow (Value.int .u64) (Sort.ahead w n) blk off dk ∧
      insOuter ltInt a b i dk = insOuter ltInt a b (a + 1) d) (fun vi _ => b + 1 - (intOf vi).toNat)
  case atStart => exact ⟨a + 1, 0, d, by go_num, by omega, by omega, rfl, (putRow_self _ _ _ _ _ hH).symm, rfl⟩
  case round =>
    obtain ⟨i, n, dk, rfl, hai, hib, hsk, hwr, hO⟩ := hrel
    have HO : Hid (insOuter ltInt a b i dk = insOuter ltInt a b (a + 1) d) := hO
    clear hO
    go_wp2
    · -- i < b: the inner loop
      go_loopw [7] (fun vj wr2 => ∃ (j m : Nat) (dj : Array Int), vj = .int .i64 j ∧ a ≤ j ∧ j ≤ i ∧ dj.size = d.size ∧ wr2 = putRow (Value.int .u64) (Sort.ahead w m) blk off dj ∧
          insInner ltInt a j dj = insInner ltInt a i dk) (fun vj _ => (intOf vj).toNat)
      case atStart => exact ⟨i, n, dk, rfl, by omega, Nat.le_refl _, hsk, rfl, rfl⟩
      case round =>
        obtain ⟨j, m, dj, rfl, haj, hji, hsj, hw2, hI⟩ := hrel
        have hlt : i < b := by assumption
        obtain ⟨G, hG⟩ : ∃ G : Nat → Int, ∀ t, G t = dj[t]! := ⟨fun t => dj[t]!, fun _ => rfl⟩
        have hcw : ∀ t, t < d.size → wr.cell? ⟨blk, off + t, none⟩ = some (.int .u64 (G t)) := fun t ht => by
          rw [hw2, hG]; exact cell?_putRow _ _ _ _ d dj (holds_ahead _ _ _ _ _ _ hH) hsj t (by omega)
        have hfw : ∀ t, t < d.size → wr.frozen? ⟨blk, off + t, none⟩ = false := fun t ht => by
          rw [hw2, frozen?_putRow]; exact ((holds_ahead _ _ m _ _ _ hH) t ht).2
        have HW : Hid (wr = putRow (Value.int .u64) (Sort.ahead w m) blk off dj) := hw2
        have HG : Hid (∀ t, G t = dj[t]!) := hG
        have HI : Hid (insInner ltInt a j dj = insInner ltInt a i dk) := hI
        clear hw2 hG hI hH
        have out : (j ≤ a ∨ ltInt dj[j]! dj[j - 1]! = false) → ∀ q, ∃ i' n' dk', Value.int .i64 ((i : Int) + 1) = .int .i64 (i' : Nat) ∧ a < i' ∧ i' ≤ b + 1 ∧ dk'.size = d.size ∧
            wr.drewN q = putRow (Value.int .u64) (Sort.ahead w n') blk off dk' ∧ insOuter ltInt a b i' dk' = insOuter ltInt a b (a + 1) d := fun hs q =>
          ⟨i + 1, m + q, dj, by go_num, by omega, by omega, hsj, by rw [HW.out]; exact putRow_drewN _ _ _ _ _ _ _,
            by rw [← HO.out, insOuter_go _ _ _ _ _ hlt, ← HI.out, insInner_stop _ _ _ _ hs]⟩
        have OUT : Hid _ := out
        clear out
        go_wp2
        by_cases hja : a < j
        · go_quiet (first | (go_at_call 356; refine Calls.quiet_of_same (lessU_calls _ _ _)))
          go_wp2
          · -- Less: the swap, j--
            have hl : ltInt (G j) (G (j - 1)) = true := by assumption
            go_region
            all_goals go_wp2
            go_roundw
            case rel =>
              refine ⟨j - 1, m + (nq + 1), swp dj j (j - 1), by congr 1; omega, by omega, by omega, by rw [size_swp]; exact hsj, ?_, ?_⟩
              · rw [HW.out, HG.out, HG.out]
                exact swap_worldA _ w m (nq + 1) blk off dj j (j - 1) (by omega) (by omega)
              · rw [← HI.out, insInner_go ltInt a j dj hja (by rw [← HG.out, ← HG.out]; exact hl)]
            case measure => simp [intOf]; omega
          · -- not Less
            have hl : ltInt (G j) (G (j - 1)) = false := by assumption
            go_roundw
            case rel => exact OUT.out (Or.inr (by rw [← HG.out, ← HG.out]; exact hl)) nq
            case measure => simp [intOf]; omega
        · go_quiet (first | (go_at_call 356; refine Calls.quiet_of_same (lessU_calls _ _ _)))
          go_wp2
          go_roundw
          case rel => exact OUT.out (Or.inl (by omega)) nq
          case measure => simp [intOf]; omega
    · -- the outer loop is at its end
      have hge : ¬ i < b := by assumption
      go_end0
      exact ⟨rfl, n, by unfold Sort.insertionSort; rw [← HO.out, insOuter_stop _ _ _ _ _ hge]⟩
end Go.Proofs.YtcdjgnpjapgoaaaGreat

namespace Go.Proofs.YtcdjgnpjapgoaaaGreat
open Go Go.RowKit Go.Lib Go.Proofs.YtcdjgnpjapgoaaaGreat.Dm Go.Sort Go.Proofs

theorem holds_of_blockU {w : World} {g : Nat} {cur : Array Value} {e : TypeId} {ss : List Int} (hb : w.heap[g]? = some (.cells cur e (0, 0))) (ht : cur.toList.take ss.length = ss.map (Value.int .u64)) : Holds (Value.int .u64) w g 0 ss.toArray := by
  intro j hj
  have hj' : j < ss.length := by simpa using hj
  refine ⟨?_, by simp [World.frozen?, hb]⟩
  have h1 : (cur.toList.take ss.length)[j]? = (ss.map (Value.int .u64))[j]? := by rw [ht]
  rw [List.getElem?_take_of_lt hj'] at h1
  simp only [World.cell?, hb, Nat.zero_add]
  simp only [Option.isSome_none, Bool.false_eq_true, if_false]
  rw [← Array.getElem?_toList, h1]
  simp [hj']

theorem heap_sortedU {w : World} {g n : Nat} {os : Array Obj} {cur : Array Value} {e : TypeId} {fr : Nat × Nat} (d : Array Int) (hb : w.heap[g]? = some (.cells cur e fr)) :
    (grow (putRow (Value.int .u64) (Sort.ahead w n) g 0 d) os).heap[g]? = some (.cells (putCells (Value.int .u64) 0 d cur) e fr) := by
  have hg : g < w.heap.size := (Array.getElem?_eq_some_iff.1 hb).1
  rw [heap_grow_old _ _ (by simpa using hg)]
  simp [putRow, mapBlock, Sort.ahead, Array.getElem?_modify, hb, onCells]

theorem grownBy_sortedU {w : World} {g n : Nat} {os : Array Obj} (d : Array Int) : w.grownBy (grow (putRow (Value.int .u64) (Sort.ahead w n) g 0 d) os) (some g) := by
  refine ⟨rfl, rfl, rfl, by simp, fun k hk hne => ?_⟩
  rw [heap_grow_old _ _ (by simpa using hk)]
  have : g ≠ k := fun e => hne (by rw [e])
  simp [putRow, mapBlock, Sort.ahead, Array.getElem?_modify, this]

theorem take_putCellsU (cur : Array Value) (ts : List Int) (h : ts.length ≤ cur.size) : (putCells (Value.int .u64) 0 ts.toArray cur).toList.take ts.length = ts.map (Value.int .u64) := by
  apply List.ext_getElem?
  intro j
  by_cases hj : j < ts.length
  · rw [List.getElem?_take_of_lt hj, Array.getElem?_toList]
    simp [putCells, hj, show j < cur.size by omega]
  · rw [List.getElem?_take_eq_none (by omega), List.getElem?_eq_none (by simp; omega)]

/-- BEHIND THE SORT the same slice owns the sorted list. -/
theorem ownsRow_sortedU {w : World} {base g cap n : Nat} {e : TypeId} {os : Array Obj} {cur : Array Value} {ss ts : List Int} (hl : ts.length = ss.length) (hbase : base ≤ g) (hb : w.heap[g]? = some (.cells cur e (0, 0)))
    (h1 : ss.length ≤ cap) (h2 : cap ≤ maxLen) (h3 : cur.size = cap * 1) :
    (grow (putRow (Value.int .u64) (Sort.ahead w n) g 0 ts.toArray) os).ownsRow base e 1 (.slice (some ⟨g, 0, none⟩) ss.length cap) ss.length (ts.map (Value.int .u64)) :=
  ⟨by simp [hl], .inr ⟨g, cap, _, rfl, hbase, heap_sortedU _ hb, h1, h2, by simp [putCells, h3], by rw [Nat.mul_one, ← hl]; exact take_putCellsU cur ts (by omega)⟩⟩



theorem len0 : Known Tryz.prog 271 [.cv (.sc (.i .u64 0))] (.cv (.sc (.i .i64 0))) := known_of (evP_ok 100) (by kernel_rfl)
theorem len1 : Known Tryz.prog 271 [.cv (.sc (.i .u64 1))] (.cv (.sc (.i .i64 1))) := known_of (evP_ok 100) (by kernel_rfl)
theorem len2 : Known Tryz.prog 271 [.cv (.sc (.i .u64 2))] (.cv (.sc (.i .i64 2))) := known_of (evP_ok 100) (by kernel_rfl)
theorem len3 : Known Tryz.prog 271 [.cv (.sc (.i .u64 3))] (.cv (.sc (.i .i64 2))) := known_of (evP_ok 100) (by kernel_rfl)
theorem len4 : Known Tryz.prog 271 [.cv (.sc (.i .u64 4))] (.cv (.sc (.i .i64 3))) := known_of (evP_ok 100) (by kernel_rfl)
theorem len5 : Known Tryz.prog 271 [.cv (.sc (.i .u64 5))] (.cv (.sc (.i .i64 3))) := known_of (evP_ok 100) (by kernel_rfl)
theorem len6 : Known Tryz.prog 271 [.cv (.sc (.i .u64 6))] (.cv (.sc (.i .i64 3))) := known_of (evP_ok 100) (by kernel_rfl)
theorem len7 : Known Tryz.prog 271 [.cv (.sc (.i .u64 7))] (.cv (.sc (.i .i64 3))) := known_of (evP_ok 100) (by kernel_rfl)
theorem len8 : Known Tryz.prog 271 [.cv (.sc (.i .u64 8))] (.cv (.sc (.i .i64 4))) := known_of (evP_ok 100) (by kernel_rfl)
theorem len9 : Known Tryz.prog 271 [.cv (.sc (.i .u64 9))] (.cv (.sc (.i .i64 4))) := known_of (evP_ok 100) (by kernel_rfl)
theorem len10 : Known Tryz.prog 271 [.cv (.sc (.i .u64 10))] (.cv (.sc (.i .i64 4))) := known_of (evP_ok 100) (by kernel_rfl)
theorem len11 : Known Tryz.prog 271 [.cv (.sc (.i .u64 11))] (.cv (.sc (.i .i64 4))) := known_of (evP_ok 100) (by kernel_rfl)
theorem len12 : Known Tryz.prog 271 [.cv (.sc (.i .u64 12))] (.cv (.sc (.i .i64 4))) := known_of (evP_ok 100) (by kernel_rfl)

theorem lenU_of {n k : Int} (h : Known Tryz.prog 271 [.cv (.sc (.i .u64 n))] (.cv (.sc (.i .i64 k)))) (w : World) : Calls Tryz.prog 271 #[.int .u64 n] w fun e w' => ∃ k : Int, e = .returned (.int .i64 k) ∧ Below w.heap.size w w' := by
  refine (h.2 w #[.int .u64 n] ⟨rfl, trivial⟩).mono ?_
  rintro e w' ⟨V, rfl, hv, q1, q2, q3, q4, q5⟩
  obtain rfl : V = .int .i64 k := hv
  exact ⟨k, rfl, ⟨q1, q2, q3, q4, fun c hc => q5 c hc⟩⟩

theorem lenU_calls {n : Nat} (hn : n ≤ 12) (w : World) : Calls Tryz.prog 271 #[.int .u64 (n : Int)] w fun e w' => ∃ k : Int, e = .returned (.int .i64 k) ∧ Below w.heap.size w w' := by
  have : n = 0 ∨ n = 1 ∨ n = 2 ∨ n = 3 ∨ n = 4 ∨ n = 5 ∨ n = 6 ∨ n = 7 ∨ n = 8 ∨ n = 9 ∨ n = 10 ∨ n = 11 ∨ n = 12 := by omega
  rcases this with h | h | h | h | h | h | h | h | h | h | h | h | h
  · subst h; exact lenU_of len0 w
  · subst h; exact lenU_of len1 w
  · subst h; exact lenU_of len2 w
  · subst h; exact lenU_of len3 w
  · subst h; exact lenU_of len4 w
  · subst h; exact lenU_of len5 w
  · subst h; exact lenU_of len6 w
  · subst h; exact lenU_of len7 w
  · subst h; exact lenU_of len8 w
  · subst h; exact lenU_of len9 w
  · subst h; exact lenU_of len10 w
  · subst h; exact lenU_of len11 w
  · subst h; exact lenU_of len12 w

theorem pdqU_calls (blk off cap n : Nat) (k : Int) (d : Array Int) (w : World) (hH : Holds (Value.int .u64) w blk off d) (hn : d.size = n) (h12 : n ≤ 12) :
    Calls Tryz.prog 270 #[.slice (some ⟨blk, off, none⟩) n cap, .int .i64 0, .int .i64 (n : Int), .int .i64 k] w fun e w' =>
      e = .returned (.tuple #[]) ∧ ∃ m, w' = putRow (Value.int .u64) (Sort.ahead w m) blk off (Sort.insertionSort ltInt d 0 n) := by
  have hc := insU_calls blk off cap 0 n d w hH (Nat.zero_le _) (by omega) (by omega)
  rw [hn] at hc
  have hz : (n : Int) - 0 ≤ 12 := by omega
  have hz' : (n : Int) ≤ 12 := by omega
  have hw : IntKind.i64.wrap (n : Int) = n := IntWalk.i64_in _ (by omega)
  clear hH
  go_enter Tryz.func270, Tryz.ntmps270
  go_wp2
  go_loopw [1, 2] (fun v1 v2 wr => v1 = .int .i64 0 ∧ v2 = .int .i64 (n : Int) ∧ wr = w) (fun _ _ _ => 0)
  case atStart => exact ⟨rfl, rfl, rfl⟩
  case round =>
    obtain ⟨rfl, rfl, rfl⟩ := hrel
    go_wp2_with (go_at_call 350; refine hc.mono ?_; rintro e w1 ⟨rfl, hw1⟩)
    (try simp only [Exit.inBlock, Exit.then]); refine bodyPost_ret (results_none rfl _ _ _) rfl ?_
    exact ⟨rfl, hw1⟩

theorem sortU_calls {base g cap : Nat} {e : TypeId} {L : List Int} (w : World) (hown : w.ownsRow base e 1 (.slice (some ⟨g, 0, none⟩) L.length cap) L.length (L.map (Value.int .u64))) (h12 : L.length ≤ 12) (hpos : 0 < L.length) :
    Calls Tryz.prog 139 #[.slice (some ⟨g, 0, none⟩) L.length cap] w fun ex w' => ex = .returned (.tuple #[]) ∧ w.grownBy w' (some g) ∧
      w'.ownsRow base e 1 (.slice (some ⟨g, 0, none⟩) L.length cap) L.length ((L.mergeSort (fun x y => !ltInt y x)).map (Value.int .u64)) := by
  obtain ⟨cur, hbase, hbb, h1, h2, h3, h4⟩ : ∃ cur : Array Value, base ≤ g ∧ w.heap[g]? = some (.cells cur e (0, 0)) ∧ L.length ≤ cap ∧ cap ≤ maxLen ∧ cur.size = cap * 1 ∧ cur.toList.take L.length = L.map (Value.int .u64) := by
    rcases hown.2 with ⟨h', _⟩ | ⟨g', cap', cur, h', hb, hg, hnc, hcm, hcs, htake⟩
    · simp at h'
    · simp only [Value.slice.injEq, Option.some.injEq, Addr.mk.injEq, and_true, true_and] at h'
      obtain ⟨rfl, rfl⟩ := h'
      exact ⟨cur, hb, hg, hnc, hcm, hcs, by simpa using htake⟩
  have HB : Aside (w.heap[g]? = some (.cells cur e (0, 0))) := hbb
  have HT : Aside (cur.toList.take L.length = L.map (Value.int .u64)) := h4
  have HS : Aside (base ≤ g ∧ L.length ≤ cap ∧ cap ≤ maxLen ∧ cur.size = cap * 1) := ⟨hbase, h1, h2, h3⟩
  have hgl : g < w.heap.size := (hown.lt g rfl).2
  have hu : IntKind.u64.wrap (L.length : Int) = L.length := by rw [IntKind.wrap_u64]; omega
  clear hown hbase hbb h1 h2 h3 h4
  have HH : Aside (0 < L.length) := hpos
  clear hpos
  have HL : Aside (∀ w, Calls Tryz.prog 271 #[.int .u64 (L.length : Int)] w fun e w' => ∃ k : Int, e = .returned (.int .i64 k) ∧ Below w.heap.size w w') := fun w => lenU_calls h12 w
  have HP : Aside (∀ (w1 : World) (k : Int) (cur : Array Value), w1.heap[g]? = some (.cells cur e (0, 0)) → cur.toList.take L.length = L.map (Value.int .u64) → Calls Tryz.prog 270 #[.slice (some ⟨g, 0, none⟩) L.length cap, .int .i64 0, .int .i64 (L.length : Int), .int .i64 k] w1 fun e w' =>
      e = .returned (.tuple #[]) ∧ ∃ m, w' = putRow (Value.int .u64) (Sort.ahead w1 m) g 0 (Sort.insertionSort ltInt L.toArray 0 L.length)) := fun w1 k cur h1 h2 => pdqU_calls g 0 cap L.length k L.toArray w1 (holds_of_blockU h1 h2) (by simp) h12
  go_enter Tryz.func139, Tryz.ntmps139
  go_wp2_with (first
    | (go_at_call 271; refine (HL.out _).mono ?_; rintro e w1 ⟨k, rfl, hb1⟩)
    | (go_at_call 270; refine (HP.out w1 k cur ((hb1.block g hgl).trans HB.out) HT.out).mono ?_; rintro e w2 ⟨rfl, m, hw2⟩))
  go_end0
  have hps := insertionSort_holds swo_ltInt L.toArray 0 L.length (Nat.zero_le _) (by simp)
  have hu := sorted_unique_holds swo_ltInt (fun x y hx hy => by unfold ltInt at hx hy; simp at hx hy; omega) L.toArray (insertionSort ltInt L.toArray 0 L.length) (by simpa using hps.1) (by simpa using hps.2)
  have hl : (L.mergeSort (fun x y => !ltInt y x)).length = L.length := by simp
  have e2 : insertionSort ltInt L.toArray 0 L.length = (L.mergeSort (fun x y => !ltInt y x)).toArray := by
    apply Array.toList_inj.1
    rw [hu]
  obtain ⟨hbase, h1, h2, h3⟩ := HS.out
  have gz : ∀ x : World, grow x #[] = x := fun x => by unfold grow; simp
  refine ⟨rfl, ?_, ?_⟩
  · have hg1 : w.grownBy w1 (some g) := ⟨hb1.os, hb1.tape, hb1.output, hb1.size, fun c hc _ => hb1.block c hc⟩
    have := grownBy_sortedU (w := w1) (g := g) (n := m) (os := #[]) ((L.mergeSort (fun x y => !ltInt y x)).toArray)
    rw [e2]
    rw [gz] at this
    exact ⟨this.os.trans hg1.os, this.tape.trans hg1.tape, this.output.trans hg1.output, Nat.le_trans hg1.size this.size, fun c hc hne => (this.block c (Nat.lt_of_lt_of_le hc hg1.size) hne).trans (hg1.block c hc hne)⟩
  · have := ownsRow_sortedU (w := w1) (n := m) (os := #[]) hl hbase ((hb1.block g hgl).trans HB.out) h1 h2 h3
    rw [e2]
    rw [gz] at this
    exact this
end Go.Proofs.YtcdjgnpjapgoaaaGreat
