/- law 35's told. -/
import Derived.Test.YtdlnipimljpmgaaIF5
import Derived.Test.YtdlnipimljpmgaaIW15
set_option linter.unusedVariables false
set_option linter.unusedSimpArgs false
set_option linter.unusedSectionVars false
set_option linter.unnecessarySimpa false
namespace Go.Proofs.Ytdlnipimljpmgaa
open Go Go.RowKit Go.Im Go.Lib Go.Fl

def p7 : List Int := 7 :: List.replicate 4095 0
theorem p7_len : p7.length = 4096 := by rw [p7, List.length_cons, List.length_replicate]
theorem p7_byte : Byte p7 := by
  intro x hx
  simp only [p7, List.mem_cons, List.mem_replicate] at hx
  omega
theorem fromLe_rep (k : Nat) : fromLe (List.replicate k 0) = 0 := by
  have := fromLe_zeros [] k
  simpa [fromLe] using this
theorem wd7_0 : wd p7 0 = 7 := by
  have h : ∀ n, fromLe ((7 :: List.replicate n 0).take 8) = 7 := fun n => by
    rw [List.take_succ_cons, List.take_replicate, fromLe, fromLe_rep]; rfl
  exact h 4095
theorem wd7_s (k : Nat) : wd p7 (k + 1) = 0 := by
  unfold wd p7
  rw [show 8 * (k + 1) = (8 * k + 7) + 1 by omega, List.drop_succ_cons, List.drop_replicate, List.take_replicate, fromLe_rep]
theorem dg7 : ∀ k, dg p7 (k + 1) = (7, 0)
  | 0 => by
    simp only [dg, wd7_0]
    rfl
  | k + 1 => by
    have ih := dg7 k
    rw [dg, ih, wd7_s]
    unfold rotRe rotIm
    split <;> rfl

set_option maxRecDepth 100000 in
theorem Take_nil (w : World) : Calls Try.prog 35 #[.pointer none, .int .i64 1] w fun e w' => e = .returned (.tuple #[.agg #[.bool false, .int .u64 0, .int .i64 0, .slice none 0 0], .int .i64 1]) ∧ Below w.heap.size w w' := by
  have hz26 := zero26
  go_enter Try.func35, Try.ntmps35
  go_wp2_with fail
  refine bodyPost_ret (v := .tuple #[.agg #[.bool false, .int .u64 0, .int .i64 0, .slice none 0 0], .int .i64 1]) (by simp [results, Try.results35, go_sem]) rfl ⟨rfl, (Below.refl _ _).alloc (Nat.le_refl _) _⟩

theorem fb7 : fb 7 = 4619567317775286272 := by decide
theorem fb0 : fb 0 = 0 := rfl

theorem enc0 : enc ⟨false, 0, 0, []⟩ = [68, 77, 73, 49, 0, 0, 0, 0, 0, 0, 0, 0, 0, 0, 0, 0, 0, 0] := by decide
theorem dec0 : dec [68, 77, 73, 49, 0, 0, 0, 0, 0, 0, 0, 0, 0, 0, 0, 0, 0, 0] = some ⟨false, 0, 0, []⟩ := by decide
theorem dec1 : dec [68, 77, 73, 49] = none := by decide

theorem bs_const {w : World} {cs : List Int} {n c : Nat} {fr : Nat × Nat} (hn : cs.length = n) : Bs (w.alloc (.cells (cs.map (Value.int .u8)).toArray 5 fr)).heap.size (w.alloc (.cells (cs.map (Value.int .u8)).toArray 5 fr)) (.slice (some ⟨w.heap.size, 0, none⟩) n c) cs := by
  subst hn
  refine ⟨_, _, rfl, .inr ⟨w.heap.size, 0, rfl, by simp, fun j u hj => ?_⟩⟩
  have h : (w.alloc (.cells (cs.map (Value.int .u8)).toArray 5 fr)).heap[w.heap.size]? = some (.cells (cs.map (Value.int .u8)).toArray 5 fr) := heap_n0
  unfold World.cell?
  rw [h]
  simpa using hj

theorem bs_const2 {w : World} {D : Obj} {cs : List Int} {n c : Nat} {fr : Nat × Nat} (hn : cs.length = n) : Bs ((w.alloc D).alloc (.cells (cs.map (Value.int .u8)).toArray 5 fr)).heap.size ((w.alloc D).alloc (.cells (cs.map (Value.int .u8)).toArray 5 fr)) (.slice (some ⟨w.heap.size + 1, 0, none⟩) n c) cs := by
  have e : (w.alloc D).heap.size = w.heap.size + 1 := by simp
  have := bs_const (w := w.alloc D) (c := c) (fr := fr) hn
  rw [e] at this
  exact this

theorem leaf7 {w : World} {P : Nat} (hp : w.heap[P]? = some (.cells (p7.map (Value.int .u8)).toArray 5)) :
    LeavesF (w.alloc (.cells #[.int .u64 1, .int .i64 1, .bool false, .slice (some ⟨P, 0, none⟩) 4096 4096] 58)).heap.size (w.alloc (.cells #[.int .u64 1, .int .i64 1, .bool false, .slice (some ⟨P, 0, none⟩) 4096 4096] 58)) (.slice (some ⟨w.heap.size, 0, none⟩) 1 1) [⟨1, 1, false, p7⟩] [.slice (some ⟨P, 0, none⟩) 4096 4096] := by
  have hP : P < w.heap.size := by
    rcases Nat.lt_or_ge P w.heap.size with h | h
    · exact h
    · rw [Array.getElem?_eq_none h] at hp; cases hp
  refine ⟨rfl, fun i s f h1 h2 => ?_, some ⟨w.heap.size, 0, none⟩, 1, rfl, .inr ⟨w.heap.size, 0, rfl, by simp, fun j u hj => ?_⟩⟩
  · have hi : i = 0 := by
      have := (List.getElem?_eq_some_iff.1 h1).1
      simp at this
      exact this
    subst hi
    simp at h1 h2
    subst h1 h2
    refine ⟨some ⟨P, 0, none⟩, 4096, by show _ = Value.slice _ p7.length _; rw [p7_len], .inr ⟨P, 0, rfl, by simp; omega, fun j u hj => ?_⟩⟩
    rw [alloc_cells w _ _ _ hP]
    unfold World.cell?
    rw [hp]
    simpa using hj
  · have h : (w.alloc (.cells #[.int .u64 1, .int .i64 1, .bool false, .slice (some ⟨P, 0, none⟩) 4096 4096] 58)).heap[w.heap.size]? = some (.cells #[.int .u64 1, .int .i64 1, .bool false, .slice (some ⟨P, 0, none⟩) 4096 4096] 58) := heap_n0
    unfold World.cell?
    rw [h]
    simpa [flat, Lf.cells] using hj

theorem p7_cells : (zerosA 4096).setIfInBounds 0 (.int .u8 7) = (p7.map (Value.int .u8)).toArray := by
  have h : ∀ n, (List.replicate (n + 1) (Value.int .u8 0)).toArray.setIfInBounds 0 (.int .u8 7) = ((7 :: List.replicate n 0).map (Value.int .u8)).toArray := fun n => by
    rw [List.setIfInBounds_toArray, List.replicate_succ, List.set_cons_zero, List.map_cons, List.map_replicate]
  exact h 4095

theorem sum7 (w : World) (D : Obj) : Calls Try.prog 10 #[.agg #[.bool false, .int .u64 0, .int .i64 0, .slice (some ⟨w.heap.size + 1 + 1, 0, none⟩) 1 1]]
    (((w.alloc D).alloc (.cells ((zerosA 4096).setIfInBounds 0 (.int .u8 7)) 5)).alloc (.cells #[.int .u64 1, .int .i64 1, .bool false, .slice (some ⟨w.heap.size + 1, 0, none⟩) 4096 4096] 58))
    fun e w' => e = .returned (.tuple #[.complex .f64 0 4619567317775286272, .int .i64 0]) ∧ Below w.heap.size w w' := by
  rw [p7_cells]
  have e1 : (w.alloc D).heap.size = w.heap.size + 1 := by simp
  have e2 : ((w.alloc D).alloc (.cells (p7.map (Value.int .u8)).toArray 5)).heap.size = w.heap.size + 1 + 1 := by simp
  have hl := leaf7 (w := (w.alloc D).alloc (.cells (p7.map (Value.int .u8)).toArray 5)) (P := w.heap.size + 1) (by rw [← e1]; exact heap_n0)
  rw [e2] at hl
  have hre : smRe [⟨1, 1, false, p7⟩] = 0 ∧ smIm [⟨1, 1, false, p7⟩] = 7 := by
    simp only [smRe, smIm, lfRe, lfIm, dg7 511]
    exact ⟨rfl, rfl⟩
  have h := Sum_any false 0 0 (some ⟨w.heap.size + 1 + 1, 0, none⟩) 1 1 _ [⟨1, 1, false, p7⟩] _ _ rfl (by omega) (Nat.le_refl _) (by omega) hl (by intro f hf; simp at hf; subst hf; exact ⟨by decide, by decide⟩) (by intro f hf; simp at hf; subst hf; exact ⟨p7_len, p7_byte⟩)
    (by
      have hw : wrong ⟨1, 1, false, p7⟩ = false := by simp [wrong, p7_len]
      unfold chk
      simp [hw, rises])
  refine h.mono ?_
  rintro e w' ⟨rfl, hb⟩
  rw [hre.1, hre.2, fb7, fb0]
  exact ⟨rfl, (((Below.refl _ _).alloc (Nat.le_refl _) _).alloc (by simp) _ |>.alloc (by simp; omega) _).trans (hb.mono (by simp; omega))⟩

theorem enc0_list : (strOfNums (enc ⟨false, 0, 0, []⟩)).toList = [68, 77, 73, 49, 0, 0, 0, 0, 0, 0, 0, 0, 0, 0, 0, 0, 0, 0] := by
  rw [enc0, ByteArray.toList_eq, strOfNums_data]
  rfl

set_option maxRecDepth 100000 in
set_option maxHeartbeats 4000000 in
theorem told_calls (w : World) : Calls Try.prog 17 #[] w fun e w' => e = .returned (.bool true) ∧ Below w.heap.size w w' := by
  have hz26 := zero26
  go_enter Try.func17, Try.ntmps17
  go_wp2_with fail
  refine (Encode_any false 0 0 none 0 0 w.heap.size [] [] w rfl (by omega) (Nat.le_refl _) (by omega) (by omega) ⟨rfl, fun i s f h => by simp at h, none, 0, rfl, .inl ⟨rfl, rfl⟩⟩ (fun f hf => by cases hf) (fun f hf => by cases hf) (fun f hf => by cases hf) (by decide)).mono ?_
  rintro e w1 ⟨v1, rfl, hb1, ho1⟩
  have HB1 : Aside (Below w.heap.size w w1) := hb1
  have HO1 : Aside (Bs w1.heap.size w1 v1 (enc ⟨false, 0, 0, []⟩)) := Bs.owned ho1
  clear hb1 ho1
  have kc := fun (w : World) (C : Array Value) (n c : Nat) => (show Sem.run Try.prog (convert 32 32 (.slice (some ⟨w.heap.size, 0, none⟩) n c)) (w.alloc (.cells C 5)) = .ok (.slice (some ⟨w.heap.size, 0, none⟩) n c) (w.alloc (.cells C 5 (C.size, C.size + 1))) from run_convert_bytes_const (P := Try.prog) w 32 5 C n c Try.underlying32 Try.underlying5)
  have kc2 : ∀ (w : World) (D : Obj) (C : Array Value) (n c : Nat), Sem.run Try.prog (convert 32 32 (.slice (some ⟨w.heap.size + 1, 0, none⟩) n c)) ((w.alloc D).alloc (.cells C 5)) = .ok (.slice (some ⟨w.heap.size + 1, 0, none⟩) n c) ((w.alloc D).alloc (.cells C 5 (C.size, C.size + 1))) := fun w D C n c => by
    have := kc (w.alloc D) C n c
    simpa using this
  have hmk : ∀ w : World, Sem.run Try.prog (Instr.makeSlice 32 (.int .i64 4096) (.int .i64 4096)) w = .ok (.slice (some ⟨w.heap.size, 0, none⟩) 4096 4096) (w.alloc (.cells (zerosA 4096) 5)) := make32 4096 (by omega)
  go_wp2_with fail
  refine (Decode_calls (L := [68, 77, 73, 49, 0, 0, 0, 0, 0, 0, 0, 0, 0, 0, 0, 0, 0, 0]) _ (by decide) (Nat.le_refl _) (by intro x hx; simp at hx; omega) (bs_const rfl)).mono ?_
  rintro e w2 ⟨hb2, he⟩
  rw [dec0] at he
  obtain ⟨v2, fs2, rfl, hl2, -⟩ := he
  obtain ⟨-, -, a2, k2, rfl, -⟩ := hl2
  have HB2 : Aside (Below w1.heap.size w1 w2) := ((Below.refl _ _).alloc (Nat.le_refl _) _).trans (hb2.mono (by simp))
  clear hb2
  go_wp2_with fail
  refine (Decode_calls (L := [68, 77, 73, 49]) _ (by decide) (Nat.le_refl _) (by intro x hx; simp at hx; omega) (bs_const2 rfl)).mono ?_
  rintro e w3 ⟨hb3, he⟩
  rw [dec1] at he
  subst he
  have d3 : w3.cell? ⟨w2.heap.size, 3, none⟩ = some (.slice a2 0 k2) := by rw [hb3.cell (by simp; omega), alloc_cells _ _ _ _ (by simp)]; exact cell_new0 () rfl
  have HB3 : Aside (Below w2.heap.size w2 w3) := (((Below.refl _ _).alloc (Nat.le_refl _) _).alloc (by simp) _).trans (hb3.mono (by simp; omega))
  clear hb3
  go_wp2_with fail
  refine (Take_nil _).mono ?_
  rintro e w4 ⟨rfl, hb4⟩
  have d4 : w4.cell? ⟨w2.heap.size, 3, none⟩ = some (.slice a2 0 k2) := by
    have hlt := World.block_lt_of_cell? w3 _ d3
    rw [hb4.cell (by simp; show w2.heap.size < _; have : w2.heap.size < w3.heap.size := hlt; omega), alloc_cells _ _ _ _ hlt]; exact d3
  have HB4 : Aside (Below w3.heap.size w3 w4) := ((Below.refl _ _).alloc (Nat.le_refl _) _).trans (hb4.mono (by simp))
  clear hb4
  have hz0 : (zerosA 4096)[0]? = some (.int .u8 0) := by unfold zerosA; rw [List.getElem?_toArray, List.getElem?_replicate]; rfl
  go_wp2_with fail
  refine (sum7 w4 _).mono ?_
  rintro e w6 ⟨rfl, hb6⟩
  have d6 : w6.cell? ⟨w2.heap.size, 3, none⟩ = some (.slice a2 0 k2) := by
    rw [hb6.cell (World.block_lt_of_cell? w4 _ d4)]; exact d4
  have HB6 : Aside (Below w.heap.size w w6) := HB1.out.trans ((HB2.out.mono HB1.out.size).trans ((HB3.out.mono (Nat.le_trans HB1.out.size HB2.out.size)).trans ((HB4.out.mono (Nat.le_trans HB1.out.size (Nat.le_trans HB2.out.size HB3.out.size))).trans (hb6.mono (Nat.le_trans HB1.out.size (Nat.le_trans HB2.out.size (Nat.le_trans HB3.out.size HB4.out.size)))))))
  obtain ⟨va, vc, rfl⟩ := HO1.out.shape
  have hcv := conv_bytes HO1.out rfl (enc_pos _) w6 (HB2.out.trans ((HB3.out.mono HB2.out.size).trans ((HB4.out.mono (Nat.le_trans HB2.out.size HB3.out.size)).trans (hb6.mono (Nat.le_trans HB2.out.size (Nat.le_trans HB3.out.size HB4.out.size))))))
  have hst : ((strOfNums (enc ⟨false, 0, 0, []⟩)).toList == [68, 77, 73, 49, 0, 0, 0, 0, 0, 0, 0, 0, 0, 0, 0, 0, 0, 0]) = true := by rw [enc0_list]; rfl
  have hceq : ∀ w, Sem.run Try.prog (binOp .eql 38 (.complex .f64 0 4619567317775286272) (.complex .f64 0 4619567317775286272)) w = .ok (.bool true) w := fun w => by kernel_rfl
  clear hb6 d3 d4 kc kc2 hmk hz0
  go_wp2_with fail
  refine (Check_any false 1 0 none 0 0 w6.heap.size [] [] w6 rfl (by omega) (Nat.le_refl _) (by omega) ⟨rfl, fun i s f h => by simp at h, none, 0, rfl, .inl ⟨rfl, rfl⟩⟩ (fun f hf => by cases hf)).mono ?_
  rintro e w7 ⟨rfl, hb7⟩
  have hc3 : chk ⟨false, 1, 0, []⟩ = 3 := by decide
  rw [hc3]
  go_wp2_with fail
  go_ret
  exact ⟨rfl, HB6.out.trans (hb7.mono HB6.out.size)⟩
end Go.Proofs.Ytdlnipimljpmgaa
