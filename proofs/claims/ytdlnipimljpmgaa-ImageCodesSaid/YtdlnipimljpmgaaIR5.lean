/- Appending to a row that bears a mark behind its end: what []byte(string) leaves. -/
import Derived.Test.YtdlnipimljpmgaaIR4
import Derived.Lib.AppendStr
import Derived.Lib.FrozenHead
set_option linter.unusedVariables false
set_option linter.unusedSimpArgs false
set_option linter.unusedSectionVars false
set_option linter.unnecessarySimpa false
namespace Go.Proofs.Ytdlnipimljpmgaa
open Go Go.RowKit Go.Im Go.Lib

/-- No cell of the row is barred. -/
def Free (fz : Nat × Nat) (n : Nat) : Prop := ∀ j, j < n → ¬ (fz.1 ≤ j ∧ j < fz.2)

/-- A row of one-cell elements that the call owns, a mark behind its end or none. -/
def MRow (w : World) (base : Nat) (e : TypeId) (v : Value) (n : Nat) (xs : List Value) : Prop :=
  xs.length = n ∧ ∃ g cap cur fz, v = .slice (some ⟨g, 0, none⟩) n cap ∧ base ≤ g ∧ w.heap[g]? = some (.cells cur e fz) ∧ Free fz cur.size ∧ n ≤ cap ∧ cap ≤ maxLen ∧ cur.size = cap ∧ cur.toList.take n = xs

theorem stores_free (P : Program) (g : Nat) (t : TypeId) (fz : Nat × Nat) : ∀ (vs : List Value) (p : Nat) (cur : Array Value) (w : World), w.heap[g]? = some (.cells cur t fz) → Free fz cur.size → p + vs.length ≤ cur.size → (∀ v ∈ vs, v.oneCell' = true) → ∀ o i, o + i = p →
    ∃ cur', (storeCells ⟨g, o, none⟩ vs i).run P w = .ok () (w.setRow g cur') ∧ cur'.size = cur.size ∧ cur'.toList.take (p + vs.length) = cur.toList.take p ++ vs := by
  intro vs
  induction vs with
  | nil =>
    intro p cur w hg _ _ _ o i _
    exact ⟨cur, by rw [setRow_self w g cur t fz hg]; rfl, rfl, by simp⟩
  | cons v rest ih =>
    intro p cur w hg hf hl h1 o i hp
    have hlt : p < cur.size := by simp at hl; omega
    have hst : (store ((⟨g, o, none⟩ : Addr).add i) v).run P w = .ok () (w.setRow g (cur.setIfInBounds p v)) := by
      have ha : (⟨g, o, none⟩ : Addr).add i = ⟨g, p, none⟩ := by rw [Addr.add_lit, hp]
      have hc : w.cell? ⟨g, p, none⟩ = some cur[p] := by simp [World.cell?, hg, hlt]
      have hz : w.frozen? ⟨g, p, none⟩ = false := by
        have := hf p hlt
        obtain ⟨a, b⟩ := fz
        simp only [World.frozen?, hg, Bool.and_eq_false_iff, decide_eq_false_iff_not]
        simp only at this
        omega
      rw [ha, run_store P w _ v _ (h1 v (by simp)), hc]
      simp [hz, setCell_eq_setRow w g p cur t fz v hg]
    obtain ⟨cur', r1, r2, r3⟩ := ih (p + 1) (cur.setIfInBounds p v) (w.setRow g (cur.setIfInBounds p v)) (setRow_heap w g cur _ t _ hg) (by simpa using hf) (by simp at hl ⊢; omega) (fun x hx => h1 x (by simp [hx])) o (i + 1) (by omega)
    refine ⟨cur', ?_, by simpa using r2, ?_⟩
    · simp only [storeCells, Sem.run_bind, hst, Result.andThen_ok, r1, setRow_setRow]
    · have e : p + (v :: rest).length = p + 1 + rest.length := by simp; omega
      rw [e, r3, Array.toList_setIfInBounds, List.take_add_one, List.take_set_of_le (Nat.le_refl _), List.getElem?_set_self (by simpa using hlt)]
      simp

theorem free_none (n : Nat) : Free (0, 0) n := fun j _ h => by omega

section
variable {w : World} {base : Nat} {e : TypeId} {v : Value} {n : Nat} {xs : List Value}

theorem MRow.kept {w' : World} {row : Option Nat} (h : MRow w base e v n xs) (hg : w.grownBy w' row) (hne : v.ownBlock ≠ row) : MRow w' base e v n xs := by
  obtain ⟨h1, g, cap, cur, fz, rfl, hb, hgg, rest⟩ := h
  refine ⟨h1, g, cap, cur, fz, rfl, hb, ?_, rest⟩
  rw [hg.block g (Array.getElem?_eq_some_iff.1 hgg).1 (by simpa [Value.ownBlock] using hne)]
  exact hgg

theorem MRow.lt (h : MRow w base e v n xs) : ∀ k, v.ownBlock = some k → base ≤ k ∧ k < w.heap.size := by
  obtain ⟨h1, g, cap, cur, fz, rfl, hb, hgg, rest⟩ := h
  intro k hk
  simp [Value.ownBlock] at hk
  subst hk
  exact ⟨hb, (Array.getElem?_eq_some_iff.1 hgg).1⟩

theorem MRow.cells {g cap : Nat} (h : MRow w base e (.slice (some ⟨g, 0, none⟩) n cap) n xs) : ∀ j u, xs[j]? = some u → w.cell? ((⟨g, 0, none⟩ : Addr).add j) = some u := by
  obtain ⟨h1, g', cap', cur, fz, he, hb, hgg, _, _, _, _, htake⟩ := h
  simp only [Value.slice.injEq, Option.some.injEq, Addr.mk.injEq, and_true] at he
  obtain ⟨rfl, -⟩ := he
  intro j u hu
  rw [Addr.add_lit, Nat.zero_add, cell_of_row w g j cur e fz hgg]
  rw [← htake, List.getElem?_take] at hu
  split at hu
  · simpa using hu
  · cases hu

/-- A string behind such a row. -/
theorem append_strM {P : Program} (t u ty : TypeId) (i : TypeInfo) (ht : P.underlying t = some (.slice e)) (hu : P.underlying u = some .string) (hi : P.info? e = some i) (hz : i.zero = some (.int .u8 0)) (hs1 : i.size = 1) (hby : i.bytes = 1)
    (hM : MRow w base e v n xs) (s : ByteArray) (h63 : n + s.size ≤ maxLen) (hbytes : n + s.size ≤ 140737488355328) (hbase : base ≤ w.heap.size) :
    ∃ v' w', (Builtin.append_ #[t, u] ty #[v, .string s]).run P w = .ok v' w' ∧ MRow w' base e v' (n + s.size) (xs ++ strCells s) ∧ w.grownBy w' v.ownBlock := by
  have hM0 := hM
  obtain ⟨h1, g, cap, cur, fz, rfl, hb, hg, hf, hnc, hcm, hcs, htake⟩ := hM
  have hlen : (xs ++ strCells s).length = n + s.size := by rw [List.length_append, h1, strCells_length]
  by_cases hroom : n + s.size ≤ cap
  · obtain ⟨cur', r1, r2, r3⟩ := stores_free P g e fz (strCells s) n cur w hg hf (by rw [strCells_length]; omega) (strCells_oneCell s) n 0 rfl
    have hfc := run_firstCells_string (P := P) w 1 s
    refine ⟨.slice (some ⟨g, 0, none⟩) (n + s.size) cap, w.setRow g cur', ?_, ⟨hlen, g, cap, cur', fz, rfl, hb, setRow_heap w g cur cur' e fz hg, by rw [r2]; exact hf, hroom, hcm, by rw [r2]; exact hcs, ?_⟩, ⟨rfl, rfl, rfl, by simp, fun k _ hk => setRow_other w g k _ (fun e => hk (by simp [Value.ownBlock, e]))⟩⟩
    · simp [Builtin.append_, run_underlying ht, run_underlying hu, sizeOf, typeInfo, hi, hs1, Builtin.lenOf, hroom, hfc, Addr.add_lit, r1]
    · rw [strCells_length] at r3
      rw [r3, htake]
  · have hr := run_append_grow_string (P := P) w t u ty e i (.int .u8 0) ht hu hi hz ⟨g, 0, none⟩ n cap xs (by rw [hs1]; simpa using h1) hM0.cells s (by omega) (by omega) (by rw [hby]; exact growslice_fits (by omega) (by omega))
    have hge := grownCap_ge w (n + s.size) cap e
    have hcm2 : grownCap w (n + s.size) cap e ≤ maxLen := grownCap_le_maxLen w (n + s.size) cap e h63
    refine ⟨_, _, hr, ⟨hlen, w.heap.size, _, _, (0, 0), rfl, hbase, heap_alloc_new w.drew _, free_none _, hge, hcm2, ?_, ?_⟩, ⟨rfl, rfl, rfl, by simp, fun k hk _ => Below.heap_alloc w.drew _ _ hk⟩⟩
    · have hz1 : (Value.int IntKind.u8 0).cells.size = 1 := rfl
      simp only [Array.size_append, List.size_toArray, size_zeroCells, hz1, h1, strCells_length]
      omega
    · simp only [Array.toList_append, List.append_assoc]
      rw [← List.append_assoc, ← hlen]
      exact List.take_left

/-- Bytes of a slice behind such a row. -/
theorem append_sliceM {P : Program} (t ty : TypeId) (i : TypeInfo) (z : Value) (ht : P.underlying t = some (.slice e)) (hi : P.info? e = some i) (hz : i.zero = some z) (hs1 : i.size = 1) (hby : i.bytes = 1) (hzs : z.cells.size = 1)
    (hM : MRow w base e v n xs) (a : Addr) (m c : Nat) (news : List Value) (hl : news.length = m) (hnews : ∀ j u, news[j]? = some u → w.cell? (a.add j) = some u) (ho : ∀ u ∈ news, u.oneCell' = true)
    (h63 : n + m ≤ maxLen) (hbytes : n + m ≤ 140737488355328) (hbase : base ≤ w.heap.size) :
    ∃ v' w', (Builtin.append_ #[t, t] ty #[v, .slice (some a) m c]).run P w = .ok v' w' ∧ MRow w' base e v' (n + m) (xs ++ news) ∧ w.grownBy w' v.ownBlock := by
  have hM0 := hM
  obtain ⟨h1, g, cap, cur, fz, rfl, hb, hg, hf, hnc, hcm, hcs, htake⟩ := hM
  have hlen : (xs ++ news).length = n + m := by rw [List.length_append, h1, hl]
  by_cases hroom : n + m ≤ cap
  · obtain ⟨cur', r1, r2, r3⟩ := stores_free P g e fz news n cur w hg hf (by rw [hl]; omega) ho n 0 rfl
    have hfc := run_firstCells_some (P := P) w i.size m a m c news (by rw [hs1]; omega) hnews
    rw [hs1] at hfc
    refine ⟨.slice (some ⟨g, 0, none⟩) (n + m) cap, w.setRow g cur', ?_, ⟨hlen, g, cap, cur', fz, rfl, hb, setRow_heap w g cur cur' e fz hg, by rw [r2]; exact hf, hroom, hcm, by rw [r2]; exact hcs, ?_⟩, ⟨rfl, rfl, rfl, by simp, fun k _ hk => setRow_other w g k _ (fun e => hk (by simp [Value.ownBlock, e]))⟩⟩
    · simp [Builtin.append_, run_underlying ht, sizeOf, typeInfo, hi, hs1, Builtin.lenOf, hroom, hfc, Addr.add_lit, r1]
    · rw [hl] at r3
      rw [r3, htake]
  · have hr := run_append_grow (P := P) w t ty e i z ht hi hz ⟨g, 0, none⟩ n cap xs (by rw [hs1]; simpa using h1) hM0.cells a m c news (by rw [hs1]; omega) hnews (by omega) (by omega) (by rw [hby]; exact growslice_fits (by omega) (by omega))
    have hge := grownCap_ge w (n + m) cap e
    have hcm2 : grownCap w (n + m) cap e ≤ maxLen := grownCap_le_maxLen w (n + m) cap e h63
    refine ⟨_, _, hr, ⟨hlen, w.heap.size, _, _, (0, 0), rfl, hbase, heap_alloc_new w.drew _, free_none _, hge, hcm2, ?_, ?_⟩, ⟨rfl, rfl, rfl, by simp, fun k hk _ => Below.heap_alloc w.drew _ _ hk⟩⟩
    · simp only [Array.size_append, List.size_toArray, size_zeroCells, hzs, h1, hl]
      omega
    · simp only [Array.toList_append, List.append_assoc]
      rw [← List.append_assoc, ← hlen]
      exact List.take_left
end

/-- What '[]byte(string)' leaves is such a row. -/
theorem mrow_of_string (w : World) (s : ByteArray) (hs : s.size ≤ maxLen) : MRow (w.drew.alloc (.cells (bytesRow s (grownCap w s.size 0 5)) 5 ((bytesRow s (grownCap w s.size 0 5)).size, (bytesRow s (grownCap w s.size 0 5)).size + 1))) w.heap.size 5 (.slice (some ⟨w.heap.size, 0, none⟩) s.size (grownCap w s.size 0 5)) s.size (strCells s) := by
  have hge := grownCap_ge w s.size 0 5
  have hz : (bytesRow s (grownCap w s.size 0 5)).size = grownCap w s.size 0 5 := by
    have h0 : s.size = s.data.size := rfl
    generalize grownCap w s.size 0 5 = q at *
    unfold bytesRow
    rw [Array.size_append, Array.size_map, Array.size_replicate]
    omega
  refine ⟨strCells_length s, w.heap.size, _, _, _, rfl, Nat.le_refl _, heap_alloc_new w.drew _, fun j hj h => by simp only at h; omega, hge, grownCap_le_maxLen w s.size 0 5 hs, hz, ?_⟩
  have h0 : s.size = s.data.size := rfl
  generalize grownCap w s.size 0 5 = q
  unfold bytesRow strCells
  rw [Array.toList_append, Array.toList_map, h0]
  exact List.take_left' (by rw [List.length_map, Array.length_toList])
end Go.Proofs.Ytdlnipimljpmgaa
