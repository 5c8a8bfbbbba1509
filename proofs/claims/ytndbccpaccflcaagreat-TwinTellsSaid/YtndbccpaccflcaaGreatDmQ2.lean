/- The quiet operations, one by one (second part). -/
import Derived.Test.YtndbccpaccflcaaGreatDmQ1
set_option linter.unusedVariables false
set_option linter.unusedSimpArgs false
set_option linter.unusedSectionVars false
namespace Go.Proofs.YtndbccpaccflcaaGreat.Dm
open Go

/-! ### laying parts -/

theorem lay_fold : ∀ (l : List Value) (k off : Nat) (c : Array Value), off + k + l.length ≤ c.size →
    ((l.zipIdx k).foldl (fun (cs : Array Value) (x : Value × Nat) => cs.setIfInBounds (off + x.2) x.1) c).toList = c.toList.take (off + k) ++ l ++ c.toList.drop (off + k + l.length)
  | [], k, off, c, h => by simp
  | v :: l, k, off, c, h => by
    simp only [List.zipIdx_cons, List.foldl_cons, List.length_cons] at h ⊢
    rw [lay_fold l (k + 1) off _ (by simp; omega)]
    have h1 : off + k < c.toList.length := by simp; omega
    rw [Array.toList_setIfInBounds]
    have e1 : (c.toList.set (off + k) v).take (off + (k + 1)) = c.toList.take (off + k) ++ [v] := by
      rw [show off + (k + 1) = (off + k) + 1 by omega, List.take_set, List.take_succ_eq_append_getElem h1, List.set_append_right _ _ (by simp; omega)]
      have h2 : off + k - min (off + k) c.size = 0 := by simp at h1; omega
      simp [h2]
    have e2 : (c.toList.set (off + k) v).drop (off + (k + 1) + l.length) = c.toList.drop (off + k + (l.length + 1)) := by
      rw [List.drop_set_of_lt (by omega)]; congr 1; omega
    rw [e1, e2]; simp

theorem Rs.layAt {ι : Io} {cells l : List SV} {cs vs : List Value} (hc : Rs ι cells cs) (hl : Rs ι l vs) (off : Nat) :
    Rs ι (layAt cells off l) (cs.take off ++ vs ++ cs.drop (off + vs.length)) := by
  unfold Dm.layAt
  rw [hl.length]
  exact ((hc.take off).append hl).append (hc.drop _)

theorem fill_sound {ι : Io} {place : Nat → Option (Nat × Nat)} : ∀ {ps : List (Nat × CV)} {vs : List (Nat × Value)} {cells r : List SV} {cs : Array Value},
    PtR ι ps vs → Rs ι cells cs.toList → fillA cells place ps = some r → ∃ cs' : Array Value, Instr.fill place cs vs = some cs' ∧ Rs ι r cs'.toList
  | [], [], cells, r, cs, _, hc, h => by simp only [fillA, Option.some.injEq] at h; subst h; exact ⟨cs, rfl, hc⟩
  | [], _ :: _, _, _, _, h, _, _ => h.elim
  | _ :: _, [], _, _, _, h, _, _ => h.elim
  | (i, x) :: ps, (j, v) :: vs, cells, r, cs, ⟨⟨hij, hx⟩, hp⟩, hc, h => by
    subst hij
    simp only [fillA] at h
    cases hpl : place i with
    | none => rw [hpl] at h; cases h
    | some q =>
      obtain ⟨off, size⟩ := q
      rw [hpl] at h; simp only [] at h
      cases hb : (Nat.beq x.cells.length size && Nat.ble (Nat.add off size) cells.length) with
      | false => rw [hb] at h; cases h
      | true =>
        rw [hb] at h; simp only [cnd_true] at h
        rw [Bool.and_eq_true] at hb
        have b1 : x.cells.length = size := Nat.eq_of_beq_eq_true hb.1
        have b2 : off + size ≤ cells.length := Nat.le_of_ble_eq_true hb.2
        have hxc := CVR.cells hx
        have l1 := hxc.length
        have l2 := hc.length
        simp only [Array.length_toList] at l1 l2
        have hlay := lay_fold v.cells.toList 0 off cs (by simp; omega)
        have hRs : Rs ι (Dm.layAt cells off x.cells) ((v.cells.toList.zipIdx 0).foldl (fun (cs : Array Value) (x : Value × Nat) => cs.setIfInBounds (off + x.2) x.1) cs).toList := by
          rw [hlay]; simpa using hc.layAt hxc off
        obtain ⟨cs', f1, f2⟩ := fill_sound hp hRs h
        refine ⟨cs', ?_, f2⟩
        simp only [Instr.fill, hpl]
        rw [if_neg (by simp; omega)]
        rw [← f1]
        congr 1
        rw [← Array.foldl_toList, Array.toList_zipIdx]

section
variable {P : Program} {ty : Ty} (hty : TyOk P ty) {ι : Io} {ρ : Env} {R : Operand → Value} (he : ER ι ρ R) {w : World} {h : Heap} (rep : Rep ι w h) {o : Oper} {v : AV}
include hty he rep

omit he rep in
theorem places_run : ∀ (fields : List Field) (pl : List (Nat × Nat)), placesOf ty (fields.map fun f => (f.offset, f.type, f.name != "_")) = some pl →
    (fields.mapM fun f => do pure (f.offset, ← sizeOf f.type) : Sem (List (Nat × Nat))).run P w = .ok pl w
  | [], pl, hp => by simp only [List.map_nil, placesOf, Option.some.injEq] at hp; subst hp; simp
  | f :: fields, pl, hp => by
    simp only [List.map_cons, placesOf] at hp
    split at hp
    · rename_i ti ht
      obtain ⟨i, d, s⟩ := hty.get ht
      split at hp
      · rename_i r hr
        simp only [Option.some.injEq] at hp; subst hp
        simp only [List.mapM_cons, Sem.run_bind, s.r_size, Result.andThen_ok, Sem.run_pure, places_run fields r hr]
      · cases hp
    · cases hp

theorem q_build {t : TypeId} {parts : Array (Nat × Operand)} (ho : o.op = .build t parts) (hq : qop ty ρ h (.build t parts) = some v) : QOk P ι h w R o v := by
  simp only [qop] at hq
  split at hq
  · rename_i ti ht
    obtain ⟨i, d, si⟩ := hty.get ht
    split at hq
    · rename_i z ps hz hps
      obtain ⟨zv, z1, z2⟩ := si.r_zero w hz
      have hzr := CVR.cells (cvOf_rel ι z2)
      have hpr := evParts_rel he hps
      split at hq
      · rename_i fs hk
        obtain ⟨a, rfl, ea⟩ := tk_st (si.k ▸ hk)
        split at hq
        · rename_i pl hpl
          split at hq
          · rename_i l hl
            simp only [Option.some.injEq] at hq; subst hq
            obtain ⟨cs', f1, f2⟩ := fill_sound hpr hzr hl
            subst ea
            have hrun := places_run hty (w := w) a.toList pl hpl
            refine .of (V := .agg cs') ?_ ⟨cs', rfl, f2⟩
            have f1' : Instr.fill (pl.toArray[·]?) zv.cells (parts.toList.map fun (i, x) => (i, R x)) = some cs' := by
              rw [← f1]; congr 1; funext k; simp
            simp only [execOp, ho, Instr.build, Sem.run_bind, z1, Result.andThen_ok, si.r_und, Array.mapM_eq_mapM_toList, Sem.run_map, hrun, Array.toList_map]
            rw [f1']
            simp
          · cases hq
        · cases hq
      · rename_i n e hk
        have hd := tk_arr (si.k ▸ hk); subst hd
        split at hq
        · rename_i te hte
          obtain ⟨i', d', se⟩ := hty.get hte
          split at hq
          · rename_i l hl
            simp only [Option.some.injEq] at hq; subst hq
            obtain ⟨cs', f1, f2⟩ := fill_sound hpr hzr hl
            refine .of (V := .agg cs') ?_ ⟨cs', rfl, f2⟩
            simp only [execOp, ho, Instr.build, Sem.run_bind, z1, Result.andThen_ok, si.r_und, se.r_size, Array.toList_map]
            have f1' : Instr.fill (fun i => some (i * te.size, te.size)) zv.cells (parts.toList.map fun (i, x) => (i, R x)) = some cs' := f1
            rw [f1']
            simp
          · cases hq
        · cases hq
      · cases hq
    · cases hq
  · cases hq

theorem q_index {t : TypeId} {x ix : Operand} (ho : o.op = .index t x ix) (hq : qop ty ρ h (.index t x ix) = some v) : QOk P ι h w R o v := by
  simp only [qop] at hq
  split at hq
  · rename_i ti ht
    obtain ⟨i, d, si⟩ := hty.get ht
    split at hq
    · rename_i n hn
      obtain ⟨kk, hix⟩ := evI_rel he hn
      split at hq
      · rename_i m e l hk hx
        have hd := tk_arr (si.k ▸ hk); subst hd
        obtain ⟨a, h1, h2⟩ := evC_rel he hx
        split at hq
        · rename_i te hte
          obtain ⟨i', d', se⟩ := hty.get hte
          split at hq
          · rename_i j hj
            obtain ⟨rfl, hlt⟩ := below_spec hj
            split at hq
            · rename_i r hp
              simp only [Option.some.injEq] at hq; subst hq
              obtain ⟨V, e1, e2⟩ := part_sound hty w h2 hp
              refine .of (V := V) ?_ e2
              have e1' : (part e a (j * te.size)).run P w = .ok V w := e1
              simp [execOp, ho, Instr.index, asIntOf, hix, h1, si.r_und, se.r_size, hlt, e1']
            · cases hq
          · cases hq
        · cases hq
      · rename_i l hk hx
        have hd := tk_str (si.k ▸ hk); subst hd
        obtain ⟨s, h1, h2⟩ := evC_rel he hx
        split at hq
        · rename_i j hj
          obtain ⟨rfl, hlt⟩ := below_spec hj
          split at hq
          · rename_i b hb
            simp only [Option.some.injEq] at hq; subst hq
            have : ∃ u : UInt8, s[j]? = some u ∧ u.toNat = b := by
              have hj' : j < s.size := by rw [str_len h2]; exact hlt
              rw [← h2, List.getElem?_map] at hb
              have hg : s.data.toList[j]? = some s[j] := by
                rw [Array.getElem?_toList, Array.getElem?_eq_getElem (show j < s.data.size from hj')]; rfl
              rw [hg] at hb; simp at hb
              exact ⟨s[j], getElem?_pos s j hj', hb⟩
            obtain ⟨u, g1, g2⟩ := this
            refine .of (V := .int .u8 u.toNat) ?_ (by rw [← g2]; rfl)
            simp [execOp, ho, Instr.index, asIntOf, hix, h1, si.r_und, g1]
          · cases hq
        · cases hq
      · cases hq
    · cases hq
  · cases hq

end
end Go.Proofs.YtndbccpaccflcaaGreat.Dm
