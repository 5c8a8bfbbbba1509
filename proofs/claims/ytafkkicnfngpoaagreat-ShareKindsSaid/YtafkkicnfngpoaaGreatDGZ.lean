/- digest.Of of a page of noughts, in place of its run. -/
import Derived.Test.YtafkkicnfngpoaaGreatDGP0
import Derived.Test.YtafkkicnfngpoaaGreatLS8
set_option linter.unusedVariables false
set_option linter.unusedSimpArgs false
set_option linter.unusedSectionVars false
set_option maxRecDepth 100000
set_option maxHeartbeats 0
namespace Go.Proofs.YtafkkicnfngpoaaGreat
open Go Go.Proofs.YtafkkicnfngpoaaGreat.Dm Go.RowKit
theorem dgok_d0 : dgkc_d0.ok Tryz.prog := ⟨knownH_of (fn := Tryz.f207) dgenters207 Tryz.func207 dgbody207_eq (args := dgargs_d0) (frT := dgfrT_d0) (Nat.le_of_ble_eq_true (by kernel_rfl)) (.inl (EndsR.piece rfl (dgkk_d0_ok ) dgp_d0_0 (EndsR.piece rfl (dgkk_d0_ok ) dgp_d0_1 (EndsR.piece rfl (dgkk_d0_ok ) dgp_d0_2 (EndsR.piece rfl (dgkk_d0_ok ) dgp_d0_3 (EndsR.piece rfl (dgkk_d0_ok ) dgp_d0_4 (EndsR.piece rfl (dgkk_d0_ok ) dgp_d0_5 (EndsR.piece rfl (dgkk_d0_ok ) dgp_d0_6 (EndsR.end_ (dgkk_d0_ok ) dgq_d0))))))))) (by kernel_rfl), by kernel_rfl, by kernel_rfl⟩
end Go.Proofs.YtafkkicnfngpoaaGreat

namespace Go.Proofs.YtafkkicnfngpoaaGreat
open Go Go.RowKit Go.Lib Go.Proofs.YtafkkicnfngpoaaGreat.Dm

noncomputable def isZ : SV → Bool
  | .i .u8 n => ieq n 0
  | _ => false
noncomputable def zTree : Tr SV → Bool
  | .e => true
  | .n none l r => zTree l && zTree r
  | .n (some v) l r => isZ v && (zTree l && zTree r)
theorem isZ_eq {v : SV} (h : isZ v = true) : v = .i .u8 0 := by
  unfold isZ at h
  split at h
  · rw [ieq_eq] at h; simp at h; rw [h]
  · cases h
theorem zTree_get : ∀ {t : Tr SV} {k : Nat} {v : SV}, zTree t = true → t.get k = some v → v = .i .u8 0
  | .e, k, v, _, h => by cases h
  | .n none l r, k, v, hz, h => by
    simp only [zTree, Bool.and_eq_true] at hz
    rw [Tr.get_n] at h
    cases h0 : Nat.beq k 0 with
    | true => rw [h0] at h; cases h
    | false =>
      rw [h0] at h; simp only [cnd_false] at h
      cases h1 : Nat.beq (Nat.land k 1) 1 with
      | true => rw [h1] at h; exact zTree_get hz.1 h
      | false => rw [h1] at h; exact zTree_get hz.2 h
  | .n (some x) l r, k, v, hz, h => by
    simp only [zTree, Bool.and_eq_true] at hz
    rw [Tr.get_n] at h
    cases h0 : Nat.beq k 0 with
    | true =>
      rw [h0] at h
      simp only [cnd_true, Option.some.injEq] at h
      rw [← h]; exact isZ_eq hz.1
    | false =>
      rw [h0] at h; simp only [cnd_false] at h
      cases h1 : Nat.beq (Nat.land k 1) 1 with
      | true => rw [h1] at h; exact zTree_get hz.2.1 h
      | false => rw [h1] at h; exact zTree_get hz.2.2 h

noncomputable def zRow (r : Row) : Bool := Nat.beq r.n 4096 && (isZ r.d && zTree r.t)
theorem zRow_get {r : Row} (h : zRow r = true) : r.n = 4096 ∧ (∀ i v, r.get i = some v → v = .i .u8 0) ∧ ∀ i, i < 4096 → r.get i = some (.i .u8 0) := by
  unfold zRow at h
  simp only [Bool.and_eq_true] at h
  obtain ⟨h1, h2, h3⟩ := h
  have hn := Nat.eq_of_beq_eq_true h1
  have key : ∀ i v, r.get i = some v → v = .i .u8 0 := fun i v hv => by
    unfold Row.get at hv
    cases hb : Nat.blt i r.n with
    | false => rw [hb] at hv; cases hv
    | true =>
      rw [hb] at hv; simp only [cnd_true] at hv
      split at hv
      · rename_i x hx
        simp only [Option.some.injEq] at hv; subst hv
        exact zTree_get h3 hx
      · simp only [Option.some.injEq] at hv; rw [← hv]; exact isZ_eq h2
  refine ⟨hn, key, fun i hi => ?_⟩
  have hb : Nat.blt i r.n = true := by rw [hn]; exact Nat.ble_eq_true_of_le hi
  cases hg : r.get i with
  | some v => rw [key i v hg]
  | none =>
    unfold Row.get at hg
    rw [hb] at hg; simp only [cnd_true] at hg
    split at hg <;> cases hg

noncomputable def dgA (args : List AV) (h : Heap) : Option AV :=
  match args with
  | [.cv (.sc (.sl b 0 4096 cap 1 ex))] =>
    match h.get b with
      | some (.cells r false) => cnd (zRow r && !ex) (some dgv_d0) none
      | _ => none
  | _ => none

noncomputable def ovDG (call : CallK) : CallK := fun f args h => cnd (Nat.beq f 207)
  (match dgA args h with
  | some v => .ok v h
  | none => call f args h) (call f args h)

theorem ovDG_ok : OvOk Tryz.prog ovDG := by
  intro call hc f args h v h' hr
  unfold ovDG at hr
  cases hb : Nat.beq f 207 with
  | false => rw [hb] at hr; exact hc f args h v h' hr
  | true =>
    rw [hb] at hr; simp only [cnd_true] at hr
    split at hr
    case h_2 => exact hc f args h v h' hr
    rename_i v0 hr0
    simp only [CRes.ok.injEq] at hr
    obtain ⟨rfl, rfl⟩ := hr
    obtain rfl := Nat.eq_of_beq_eq_true hb
    clear hb hc
    unfold dgA at hr0
    split at hr0
    case h_2 => cases hr0
    rename_i b cap ex
    split at hr0
    case h_2 => cases hr0
    rename_i r hgb
    cases hcd : (zRow r && !ex) with
    | false => rw [hcd] at hr0; cases hr0
    | true =>
    rw [hcd] at hr0; simp only [cnd_true, Option.some.injEq] at hr0
    subst hr0
    simp only [Bool.and_eq_true, Bool.not_eq_true'] at hcd
    obtain ⟨hz, rfl⟩ := hcd
    obtain ⟨z1, z2, z3⟩ := zRow_get hz
    obtain ⟨⟨hE, hle, hx⟩, -, -⟩ := dgok_d0
    have hn0 : dgkc_d0.h.next = 1 := rfl
    have hn1 : dgkc_d0.h'.next = 1 := rfl
    have get0 : ∀ c o, dgkc_d0.h.get c = some o → c = 0 ∧ o = .cells ⟨4096, .i .u8 0, .e⟩ false := by
      intro c o hb
      have e : dgkc_d0.h.t = (Tr.e).put (some (AO.cells ⟨4096, .i .u8 0, .e⟩ false)) 0 := by kernel_rfl
      have hb : dgkc_d0.h.t.get c = some o := hb
      rw [e, Tr.get_put] at hb
      by_cases h : c = 0
      · rw [if_pos h] at hb; exact ⟨h, (Option.some.inj hb).symm⟩
      · rw [if_neg h] at hb; cases hb
    have get1 : dgkc_d0.h'.get 0 = some (.cells ⟨4096, .i .u8 0, .e⟩ false) := by kernel_rfl
    refine ⟨hE, Nat.le_refl _, fun ι w aa rep has hf => ?_⟩
    obtain ⟨aa⟩ := aa
    obtain ⟨a1, rfl⟩ : ∃ a1, aa = [a1] := by
      match aa, has with
      | [a1], _ => exact ⟨a1, rfl⟩
      | [], h => exact h.elim
      | _ :: _ :: _, h => exact h.2.elim
    obtain ⟨h1, -⟩ := has
    obtain ⟨cb, N, o', capc, e1, rfl, k0, -, k2⟩ := (show VR ι (.sl b 0 4096 cap 1 false) a1 from h1)
    obtain ⟨q1, q2, q3, q4⟩ := k2 rfl
    obtain rfl : o' = 0 := q2.resolve_left (by omega)
    obtain ⟨cb', N', g1, cs, el, fr, g2, g3, g4, g5, g6⟩ := rep.obj b _ hgb
    rw [e1] at g1
    simp only [Option.some.injEq, Prod.mk.injEq] at g1
    obtain ⟨rfl, rfl⟩ := g1
    have hcl := rep.dom _ _ _ e1
    let ι0 : Io := fun b => if b = 0 then some (cb, N) else none
    have i0 : ι0 0 = some (cb, N) := rfl
    have rep0 : Rep ι0 w dgkc_d0.h := by
      refine ⟨fun b o hb => by rw [(get0 b o hb).1, hn0]; exact Nat.one_pos, fun c o hb => ?_, fun b b' o o' c N N' e1 e2 _ _ => (get0 b o e1).1.trans (get0 b' o' e2).1.symm, fun b c M hb => ?_⟩
      · obtain ⟨rfl, rfl⟩ := get0 c o hb
        refine ⟨cb, N, i0, cs, el, fr, g2, g3, by show 4096 ≤ N; omega, fun i v hv => ?_, g6⟩
        have hv : (cnd (Nat.blt i 4096) (some (SV.i .u8 0)) none) = some v := hv
        cases hbb : Nat.blt i 4096 with
        | false => rw [hbb] at hv; cases hv
        | true =>
          rw [hbb] at hv
          simp only [cnd_true, Option.some.injEq] at hv
          subst hv
          exact g5 i _ (z3 i (Nat.le_of_ble_eq_true hbb))
      · by_cases h : b = 0
        · subst h; rw [i0] at hb; simp only [Option.some.injEq, Prod.mk.injEq] at hb; rw [← hb.1]; exact hcl
        · have : ι0 b = none := if_neg h
          rw [this] at hb; cases hb
    have has0 : ARs ι0 dgkc_d0.args [.slice (some ⟨cb, 0, none⟩) 4096 capc] :=
      ⟨⟨cb, N, 0, capc, i0, rfl, Nat.le_refl _, fun h => (by cases h), fun _ => ⟨by omega, .inr rfl, by omega, q4⟩⟩, trivial⟩
    refine (hx ι0 w #[.slice (some ⟨cb, 0, none⟩) 4096 capc] rep0 has0 (fun b hb hb' => by rw [hn0] at hb; rw [hn1] at hb'; omega)).mono ?_
    rintro e w' ⟨V, ι', rfl, hv, p⟩
    have hv : AVR ι dgv_d0 V := flatA_rel (by kernel_rfl) hv
    refine ⟨V, ι, rfl, hv, ?_⟩
    have j0 : ι' 0 = some (cb, N) := (p.ext 0 (.inl (by rw [hn0]; exact Nat.one_pos))).trans i0
    obtain ⟨cb2, N2, k1, cs', el', fr', w2, w3, w4, w5, w6⟩ := p.rep.obj 0 _ get1
    rw [j0] at k1
    simp only [Option.some.injEq, Prod.mk.injEq] at k1
    obtain ⟨rfl, rfl⟩ := k1
    have same : ∀ c, c < w.heap.size → c ≠ cb → w'.heap[c]? = w.heap[c]? := fun c hc hne => p.frame c hc (fun b o M h1 h2 => by
      obtain ⟨rfl, _⟩ := get0 b o h1
      rw [i0] at h2
      simp only [Option.some.injEq, Prod.mk.injEq] at h2
      exact hne h2.1.symm)
    refine ⟨⟨rep.lt, fun c o hc => ?_, rep.inj, fun c d M hc => Nat.lt_of_lt_of_le (rep.dom c d M hc) p.size⟩, fun _ _ => rfl, Nat.le_refl _, fun c hc hx => same c hc (fun e => by subst e; exact hx b _ N hgb e1), p.size, fun c o d M h1 h2 => .inl ⟨c, o, M, h1, h2⟩, p.tape, p.os, p.output⟩
    obtain ⟨d, M, m1, m2⟩ := rep.obj c o hc
    refine ⟨d, M, m1, ?_⟩
    by_cases hd : d = cb
    · subst hd
      obtain rfl : c = b := rep.inj c b o _ d M N hc hgb m1 e1
      rw [e1] at m1
      simp only [Option.some.injEq, Prod.mk.injEq] at m1
      obtain ⟨-, rfl⟩ := m1
      rw [hgb] at hc
      simp only [Option.some.injEq] at hc
      subst hc
      refine ⟨cs', el', fr', w2, w3, by rw [z1]; exact w4, fun i v hv => ?_, fun _ => w6 rfl⟩
      obtain rfl := z2 i v hv
      have hi : Nat.blt i 4096 = true := by
        unfold Row.get at hv
        rw [z1] at hv
        cases hbb : Nat.blt i 4096 with
        | true => rfl
        | false => rw [hbb] at hv; cases hv
      have hget : (⟨4096, .i .u8 0, .e⟩ : Row).get i = some (.i .u8 0) := by
        show (cnd (Nat.blt i 4096) (some (SV.i .u8 0)) none) = _
        rw [hi]; rfl
      obtain ⟨V, y1, y2⟩ := w5 i (.i .u8 0) hget
      exact ⟨V, y1, y2⟩
    · exact OR.mono (fun _ _ h => h) (same d (rep.dom c d M m1) hd) m2
end Go.Proofs.YtafkkicnfngpoaaGreat
