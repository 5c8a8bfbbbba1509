/- image's reader: number. -/
import Derived.Test.YtdlnipimljpmgaaIW4
set_option linter.unusedVariables false
set_option linter.unusedSimpArgs false
set_option linter.unusedSectionVars false
set_option linter.unnecessarySimpa false
namespace Go.Proofs.Ytdlnipimljpmgaa
open Go Go.RowKit Go.Im Go.Lib

theorem fromLe_zeros : ∀ (l : List Int) (k : Nat), fromLe (l ++ List.replicate k 0) = fromLe l
  | [], 0 => rfl
  | [], k + 1 => by
    have := fromLe_zeros [] k
    simp only [List.nil_append] at this
    simp [List.replicate_succ, fromLe, this]
  | a :: l, k => by
    have := fromLe_zeros l k
    simp only [List.cons_append, fromLe, this]

theorem take_byte {d : Rd} {n : Nat} (h : Byte d.left) : Byte (take d n).1 ∧ Byte (take d n).2.left := by
  unfold take
  split
  · exact ⟨fun x hx => by rw [List.mem_replicate] at hx; omega, h⟩
  · exact ⟨fun x hx => h x (List.mem_of_mem_take hx), fun x hx => h x (List.mem_of_mem_drop hx)⟩

theorem take_len (d : Rd) (n : Nat) : (take d n).1.length = n := by
  unfold take
  split
  · simp
  · rw [List.length_take]; omega

theorem size5 : (Try.prog.info? 5).map (·.size) = some 1 := by kernel_rfl

theorem ints_one {l : List Int} : ∀ u ∈ l.map (Value.int .u8), u.oneCell' = true := by
  intro u hu
  obtain ⟨x, _, rfl⟩ := List.mem_map.1 hu
  rfl

/-- What a copy takes its cells from. -/
theorem copy_src {B : Nat} {w : World} {va : Option Addr} {n c : Nat} {l L : List Int} {cs : List Value} (h : Bs B w (.slice va n c) l) (h1 : l = L) (h2 : L.map (Value.int .u8) = cs) (h0 : cs.length ≠ 0) :
    ∃ ad, va = some ad ∧ ∀ j v, cs[j]? = some v → w.cell? (ad.add j) = some v := by
  subst h1 h2
  obtain ⟨a, c', he, h3⟩ := h
  cases he
  rcases h3 with rfl | ⟨b, o, rfl, _, hc⟩
  · simp at h0
  · exact ⟨_, rfl, fun j v hj => by rw [Addr.add_lit]; exact hc j v hj⟩

set_option maxRecDepth 100000 in
set_option maxHeartbeats 1000000 in
theorem number_calls {B : Nat} (r : Nat) (d : Rd) (n : Nat) (w : World) (hn : n ≤ 8) (hd : d.left.length ≤ 1000000000) (hby : Byte d.left) (hx : RdAt B w r d) :
    Calls Try.prog 37 #[.pointer (some ⟨r, 0, none⟩), .int .i64 n] w fun e w' => e = .returned (.int .u64 (number d n).1) ∧ RdAt B w' r (number d n).2 ∧ w.grownBy w' (some r) := by
  have HX : Aside (RdAt B w r d) := hx
  have HBY : Aside (Byte d.left) := hby
  have hr : r < w.heap.size := hx.1.1
  have hBw : B ≤ w.heap.size := hx.1.2
  clear hx hby
  have hmk : ∀ w : World, Sem.run Try.prog (Instr.makeSlice 32 (.int .i64 8) (.int .i64 8)) w = .ok (.slice (some ⟨w.heap.size, 0, none⟩) 8 8) (w.alloc (.cells (zerosA 8) 5)) := make32 8 (by omega)
  go_enter Try.func37, Try.ntmps37
  go_wp2_with fail
  refine (take_calls (B := B) r d n _ (by omega) hd (HX.out.grow (World.grownBy_alloc w _ none))).mono ?_
  rintro e w2 ⟨v, rfl, hv, hrd, hg⟩
  obtain ⟨va, vc, hve⟩ := hv.shape
  rw [take_len] at hve
  subst hve
  have HV : Aside (Bs w2.heap.size w2 (.slice va n vc) (take d n).1) := hv
  have HRD : Aside (RdAt B w2 r (take d n).2) := hrd
  have HG : Aside ((w.alloc (.cells (zerosA 8) 5)).grownBy w2 (some r)) := hg
  have hblk : w2.heap[w.heap.size]? = some (.cells ((List.replicate 8 (Value.int .u8 0)).toArray) 5) := by
    rw [hg.block w.heap.size (by simp) (by simp; omega)]
    show (w.heap.push _)[w.heap.size]? = _
    rw [Array.getElem?_push, if_pos rfl]
    rfl
  have hsz : w.heap.size < w2.heap.size := by have := hg.size; simp at this; omega
  obtain ⟨L, hL⟩ : ∃ L, (take d n).1 = L := ⟨_, rfl⟩
  obtain ⟨cs, hcs⟩ : ∃ cs, L.map (Value.int .u8) = cs := ⟨_, rfl⟩
  have HL : Aside ((take d n).1 = L) := hL
  have HCS : Aside (L.map (Value.int .u8) = cs) := hcs
  have HLN : Aside (cs.length = n) := by
    show _ = _
    rw [← hcs, ← hL, List.length_map, take_len]
  clear hv hrd hg hL hcs
  go_wp2_with (refine wpList_copy_splice rfl _ _ 32 32 rfl 5 Try.underlying32 size5 _ va 8 8 n vc rfl rfl w.heap.size 0 (List.replicate 8 (Value.int .u8 0)) 5 hblk cs (by rw [HLN.out]; exact (Nat.min_eq_left hn).symm) (fun _ => ⟨rfl, copy_src HV.out HL.out HCS.out (by omega)⟩) (by rw [HLN.out]; simp; omega) (by rw [← HCS.out]; exact ints_one) w.heap.size w2 (Below.refl _ _) (Nat.le_refl _) ?_; intro w3 hg3 hb3)
  have HB3 : Aside (Below w.heap.size w2 w3) := hb3
  have hrow : splice (List.replicate 8 (Value.int .u8 0)) 0 cs = (L ++ List.replicate (8 - n) 0).map (Value.int .u8) := by
    unfold splice
    rw [List.take_zero, List.nil_append, Nat.zero_add, HLN.out, List.map_append, HCS.out, List.map_replicate, List.drop_replicate]
  have HBS : Aside (Bs w3.heap.size w3 (.slice (some ⟨w.heap.size, 0, none⟩) 8 8) (L ++ List.replicate (8 - n) 0)) := by
    have hll : (L ++ List.replicate (8 - n) (0 : Int)).length = 8 := by
      have : L.length = n := by rw [← HLN.out, ← HCS.out, List.length_map]
      rw [List.length_append, List.length_replicate, this]; omega
    refine ⟨_, 8, by rw [hll], .inr ⟨w.heap.size, 0, rfl, Nat.lt_of_lt_of_le hsz hb3.size, fun j u hj => ?_⟩⟩
    have h3 := hg3.out
    rw [hrow] at h3
    simp only [World.cell?, h3]
    simpa using hj
  have HLL : Aside ((L ++ List.replicate (8 - n) (0 : Int)).length = 8) := by
    have : L.length = n := by rw [← HLN.out, ← HCS.out, List.length_map]
    show _ = _
    rw [List.length_append, List.length_replicate, this]; omega
  have HLB : Aside (Byte (L ++ List.replicate (8 - n) 0)) := fun x hx => by
    rcases List.mem_append.1 hx with h | h
    · rw [← HL.out] at h
      exact (take_byte HBY.out).1 x h
    · rw [List.mem_replicate] at h; omega
  have HR3 : Aside (RdAt B w3 r (take d n).2) := HRD.out.below hb3 hr hBw
  clear hg3 hb3 hrow hblk
  refine (get_calls _ 8 w3.heap.size _ w3 HLL.out HLB.out HBS.out (Nat.le_refl _)).mono ?_
  rintro e w4 ⟨rfl, hw4⟩
  have HW4 : Aside (Below w3.heap.size w3 w4) := hw4
  clear hw4
  rw [fromLe_zeros]
  have HNF : Aside ((number d n).1 = fromLe L) := by
    show _ = _
    unfold number
    rw [HL.out]
  have HNS : Aside ((number d n).2 = (take d n).2) := rfl
  go_wp2
  go_ret
  rw [HNF.out, HNS.out]
  refine ⟨rfl, HR3.out.below HW4.out HR3.out.1.1 HR3.out.1.2, ?_⟩
  refine ⟨?_, ?_, ?_, ?_, fun k hk hne => ?_⟩
  · exact HW4.out.os.trans (HB3.out.os.trans HG.out.os)
  · exact HW4.out.tape.trans (HB3.out.tape.trans HG.out.tape)
  · exact HW4.out.output.trans (HB3.out.output.trans HG.out.output)
  · exact Nat.le_trans (Nat.le_of_lt hsz) (Nat.le_trans HB3.out.size HW4.out.size)
  · rw [HW4.out.block k (by have := HB3.out.size; omega), HB3.out.block k hk, HG.out.block k (by simp; omega) hne]
    exact Below.heap_alloc _ _ _ hk
end Go.Proofs.Ytdlnipimljpmgaa
