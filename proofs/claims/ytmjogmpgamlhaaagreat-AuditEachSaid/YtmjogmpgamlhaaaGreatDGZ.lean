/- The keys of a map, rising, whatever the order (at most twelve). -/
import Derived.Test.YtmjogmpgamlhaaaGreatDGP0
import Derived.Test.YtmjogmpgamlhaaaGreatDGP2
import Derived.Test.YtmjogmpgamlhaaaGreatLS1
import Derived.Test.YtmjogmpgamlhaaaGreatSO1
import Derived.Test.YtmjogmpgamlhaaaGreatSI1
set_option linter.unusedVariables false
set_option linter.unusedSimpArgs false
set_option linter.unusedSectionVars false
set_option maxRecDepth 100000
set_option maxHeartbeats 0
namespace Go.Proofs.YtmjogmpgamlhaaaGreat
open Go Go.Proofs.YtmjogmpgamlhaaaGreat.Dm Go.RowKit
theorem dgok_d0 : dgkc_d0.ok Tryz.prog := ⟨knownH_of (fn := Tryz.f385) dgenters385 Tryz.func385 dgbody385_eq (args := dgargs_d0) (frT := dgfrT_d0) (Nat.le_of_ble_eq_true (by kernel_rfl)) (.inl (EndsR.piece rfl (dgkk_d0_ok ) dgp_d0_0 (EndsR.piece rfl (dgkk_d0_ok ) dgp_d0_1 (EndsR.piece rfl (dgkk_d0_ok ) dgp_d0_2 (EndsR.piece rfl (dgkk_d0_ok ) dgp_d0_3 (EndsR.piece rfl (dgkk_d0_ok ) dgp_d0_4 (EndsR.piece rfl (dgkk_d0_ok ) dgp_d0_5 (EndsR.piece rfl (dgkk_d0_ok ) dgp_d0_6 (EndsR.end_ (dgkk_d0_ok ) dgq_d0))))))))) (by kernel_rfl), by kernel_rfl, by kernel_rfl⟩
end Go.Proofs.YtmjogmpgamlhaaaGreat

namespace Go.Proofs.YtmjogmpgamlhaaaGreat
open Go Go.RowKit Go.Lib Go.Proofs.YtmjogmpgamlhaaaGreat.Dm

noncomputable def isZ : SV → Bool
  | .i .u8 n => ieq n 0
  | _ => false
noncomputable def zTree : Tr SV → Bool
  | .e => true
  | .n none l r => zTree l && zTree r
  | .n (some v) l r => isZ v && (zTree l && zTree r)
theorem isZ_eq {v : SV} (h : isZ v = true) : v = .i .u8 0 := by
  unfold isZ at h
  split at h
  · rw [ieq_eq] at h; simp at h; rw [h]
  · cases h
theorem zTree_get : ∀ {t : Tr SV} {k : Nat} {v : SV}, zTree t = true → t.get k = some v → v = .i .u8 0
  | .e, k, v, _, h => by cases h
  | .n none l r, k, v, hz, h => by
    simp only [zTree, Bool.and_eq_true] at hz
    rw [Tr.get_n] at h
    cases h0 : Nat.beq k 0 with
    | true => rw [h0] at h; cases h
    | false =>
      rw [h0] at h; simp only [cnd_false] at h
      cases h1 : Nat.beq (Nat.land k 1) 1 with
      | true => rw [h1] at h; exact zTree_get hz.1 h
      | false => rw [h1] at h; exact zTree_get hz.2 h
  | .n (some x) l r, k, v, hz, h => by
    simp only [zTree, Bool.and_eq_true] at hz
    rw [Tr.get_n] at h
    cases h0 : Nat.beq k 0 with
    | true =>
      rw [h0] at h
      simp only [cnd_true, Option.some.injEq] at h
      rw [← h]; exact isZ_eq hz.1
    | false =>
      rw [h0] at h; simp only [cnd_false] at h
      cases h1 : Nat.beq (Nat.land k 1) 1 with
      | true => rw [h1] at h; exact zTree_get hz.2.1 h
      | false => rw [h1] at h; exact zTree_get hz.2.2 h

noncomputable def zRow (r : Row) : Bool := Nat.beq r.n 4096 && (isZ r.d && zTree r.t)
theorem zRow_get {r : Row} (h : zRow r = true) : r.n = 4096 ∧ (∀ i v, r.get i = some v → v = .i .u8 0) ∧ ∀ i, i < 4096 → r.get i = some (.i .u8 0) := by
  unfold zRow at h
  simp only [Bool.and_eq_true] at h
  obtain ⟨h1, h2, h3⟩ := h
  have hn := Nat.eq_of_beq_eq_true h1
  have key : ∀ i v, r.get i = some v → v = .i .u8 0 := fun i v hv => by
    unfold Row.get at hv
    cases hb : Nat.blt i r.n with
    | false => rw [hb] at hv; cases hv
    | true =>
      rw [hb] at hv; simp only [cnd_true] at hv
      split at hv
      · rename_i x hx
        simp only [Option.some.injEq] at hv; subst hv
        exact zTree_get h3 hx
      · simp only [Option.some.injEq] at hv; rw [← hv]; exact isZ_eq h2
  refine ⟨hn, key, fun i hi => ?_⟩
  have hb : Nat.blt i r.n = true := by rw [hn]; exact Nat.ble_eq_true_of_le hi
  cases hg : r.get i with
  | some v => rw [key i v hg]
  | none =>
    unfold Row.get at hg
    rw [hb] at hg; simp only [cnd_true] at hg
    split at hg <;> cases hg

noncomputable def dgA (args : List AV) (h : Heap) : Option AV :=
  match args with
  | [.cv (.sc (.sl b 0 4096 cap 1 ex))] =>
    match h.get b with
      | some (.cells r false) => cnd (zRow r && !ex) (some dgv_d0) none
      | _ => none
  | _ => none

noncomputable def ovDG (call : CallK) : CallK := fun f args h => cnd (Nat.beq f 385)
  (match dgA args h with
  | some v => .ok v h
  | none => call f args h) (call f args h)

theorem ovDG_ok : OvOk Tryz.prog ovDG := by
  intro call hc f args h v h' hr
  unfold ovDG at hr
  cases hb : Nat.beq f 385 with
  | false => rw [hb] at hr; exact hc f args h v h' hr
  | true =>
    rw [hb] at hr; simp only [cnd_true] at hr
    split at hr
    case h_2 => exact hc f args h v h' hr
    rename_i v0 hr0
    simp only [CRes.ok.injEq] at hr
    obtain ⟨rfl, rfl⟩ := hr
    obtain rfl := Nat.eq_of_beq_eq_true hb
    clear hb hc
    unfold dgA at hr0
    split at hr0
    case h_2 => cases hr0
    rename_i b cap ex
    split at hr0
    case h_2 => cases hr0
    rename_i r hgb
    cases hcd : (zRow r && !ex) with
    | false => rw [hcd] at hr0; cases hr0
    | true =>
    rw [hcd] at hr0; simp only [cnd_true, Option.some.injEq] at hr0
    subst hr0
    simp only [Bool.and_eq_true, Bool.not_eq_true'] at hcd
    obtain ⟨hz, rfl⟩ := hcd
    obtain ⟨z1, z2, z3⟩ := zRow_get hz
    obtain ⟨⟨hE, hle, hx⟩, -, -⟩ := dgok_d0
    have hn0 : dgkc_d0.h.next = 1 := rfl
    have hn1 : dgkc_d0.h'.next = 1 := rfl
    have get0 : ∀ c o, dgkc_d0.h.get c = some o → c = 0 ∧ o = .cells ⟨4096, .i .u8 0, .e⟩ false := by
      intro c o hb
      have e : dgkc_d0.h.t = (Tr.e).put (some (AO.cells ⟨4096, .i .u8 0, .e⟩ false)) 0 := by kernel_rfl
      have hb : dgkc_d0.h.t.get c = some o := hb
      rw [e, Tr.get_put] at hb
      by_cases h : c = 0
      · rw [if_pos h] at hb; exact ⟨h, (Option.some.inj hb).symm⟩
      · rw [if_neg h] at hb; cases hb
    have get1 : dgkc_d0.h'.get 0 = some (.cells ⟨4096, .i .u8 0, .e⟩ false) := by kernel_rfl
    refine ⟨hE, Nat.le_refl _, fun ι w aa rep has hf => ?_⟩
    obtain ⟨aa⟩ := aa
    obtain ⟨a1, rfl⟩ : ∃ a1, aa = [a1] := by
      match aa, has with
      | [a1], _ => exact ⟨a1, rfl⟩
      | [], h => exact h.elim
      | _ :: _ :: _, h => exact h.2.elim
    obtain ⟨h1, -⟩ := has
    obtain ⟨cb, N, o', capc, e1, rfl, k0, -, k2⟩ := (show VR ι (.sl b 0 4096 cap 1 false) a1 from h1)
    obtain ⟨q1, q2, q3, q4⟩ := k2 rfl
    obtain rfl : o' = 0 := q2.resolve_left (by omega)
    obtain ⟨cb', N', g1, cs, el, fr, g2, g3, g4, g5, g6⟩ := rep.obj b _ hgb
    rw [e1] at g1
    simp only [Option.some.injEq, Prod.mk.injEq] at g1
    obtain ⟨rfl, rfl⟩ := g1
    have hcl := rep.dom _ _ _ e1
    let ι0 : Io := fun b => if b = 0 then some (cb, N) else none
    have i0 : ι0 0 = some (cb, N) := rfl
    have rep0 : Rep ι0 w dgkc_d0.h := by
      refine ⟨fun b o hb => by rw [(get0 b o hb).1, hn0]; exact Nat.one_pos, fun c o hb => ?_, fun b b' o o' c N N' e1 e2 _ _ => (get0 b o e1).1.trans (get0 b' o' e2).1.symm, fun b c M hb => ?_⟩
      · obtain ⟨rfl, rfl⟩ := get0 c o hb
        refine ⟨cb, N, i0, cs, el, fr, g2, g3, by show 4096 ≤ N; omega, fun i v hv => ?_, g6⟩
        have hv : (cnd (Nat.blt i 4096) (some (SV.i .u8 0)) none) = some v := hv
        cases hbb : Nat.blt i 4096 with
        | false => rw [hbb] at hv; cases hv
        | true =>
          rw [hbb] at hv
          simp only [cnd_true, Option.some.injEq] at hv
          subst hv
          exact g5 i _ (z3 i (Nat.le_of_ble_eq_true hbb))
      · by_cases h : b = 0
        · subst h; rw [i0] at hb; simp only [Option.some.injEq, Prod.mk.injEq] at hb; rw [← hb.1]; exact hcl
        · have : ι0 b = none := if_neg h
          rw [this] at hb; cases hb
    have has0 : ARs ι0 dgkc_d0.args [.slice (some ⟨cb, 0, none⟩) 4096 capc] :=
      ⟨⟨cb, N, 0, capc, i0, rfl, Nat.le_refl _, fun h => (by cases h), fun _ => ⟨by omega, .inr rfl, by omega, q4⟩⟩, trivial⟩
    refine (hx ι0 w #[.slice (some ⟨cb, 0, none⟩) 4096 capc] rep0 has0 (fun b hb hb' => by rw [hn0] at hb; rw [hn1] at hb'; omega)).mono ?_
    rintro e w' ⟨V, ι', rfl, hv, p⟩
    have hv : AVR ι dgv_d0 V := flatA_rel (by kernel_rfl) hv
    refine ⟨V, ι, rfl, hv, ?_⟩
    have j0 : ι' 0 = some (cb, N) := (p.ext 0 (.inl (by rw [hn0]; exact Nat.one_pos))).trans i0
    obtain ⟨cb2, N2, k1, cs', el', fr', w2, w3, w4, w5, w6⟩ := p.rep.obj 0 _ get1
    rw [j0] at k1
    simp only [Option.some.injEq, Prod.mk.injEq] at k1
    obtain ⟨rfl, rfl⟩ := k1
    have same : ∀ c, c < w.heap.size → c ≠ cb → w'.heap[c]? = w.heap[c]? := fun c hc hne => p.frame c hc (fun b o M h1 h2 => by
      obtain ⟨rfl, _⟩ := get0 b o h1
      rw [i0] at h2
      simp only [Option.some.injEq, Prod.mk.injEq] at h2
      exact hne h2.1.symm)
    refine ⟨⟨rep.lt, fun c o hc => ?_, rep.inj, fun c d M hc => Nat.lt_of_lt_of_le (rep.dom c d M hc) p.size⟩, fun _ _ => rfl, Nat.le_refl _, fun c hc hx => same c hc (fun e => by subst e; exact hx b _ N hgb e1), p.size, rep.lt, fun c o d M h1 h2 => .inl ⟨c, o, M, h1, h2⟩, p.tape, p.os, p.output, fun c o hc _ => ⟨o, hc, SamK.refl o⟩, fun c k es l d M hc hι _ n hn V => HasM.same (same d (rep.dom c d M hι) (fun e => by
      subst e
      obtain ⟨d', M', m1, m2, m3, m4, m5⟩ := rep.obj c _ hc
      rw [hι] at m1
      simp only [Option.some.injEq, Prod.mk.injEq] at m1
      obtain ⟨rfl, rfl⟩ := m1
      rw [g2] at m4; cases m4)) k n V⟩
    obtain ⟨d, M, m1, m2⟩ := rep.obj c o hc
    refine ⟨d, M, m1, ?_⟩
    by_cases hd : d = cb
    · subst hd
      obtain rfl : c = b := rep.inj c b o _ d M N hc hgb m1 e1
      rw [e1] at m1
      simp only [Option.some.injEq, Prod.mk.injEq] at m1
      obtain ⟨-, rfl⟩ := m1
      rw [hgb] at hc
      simp only [Option.some.injEq] at hc
      subst hc
      refine ⟨cs', el', fr', w2, w3, by rw [z1]; exact w4, fun i v hv => ?_, fun _ => w6 rfl⟩
      obtain rfl := z2 i v hv
      have hi : Nat.blt i 4096 = true := by
        unfold Row.get at hv
        rw [z1] at hv
        cases hbb : Nat.blt i 4096 with
        | true => rfl
        | false => rw [hbb] at hv; cases hv
      have hget : (⟨4096, .i .u8 0, .e⟩ : Row).get i = some (.i .u8 0) := by
        show (cnd (Nat.blt i 4096) (some (SV.i .u8 0)) none) = _
        rw [hi]; rfl
      obtain ⟨V, y1, y2⟩ := w5 i (.i .u8 0) hget
      exact ⟨V, y1, y2⟩
    · exact OR.mono (fun _ _ h => h) (same d (rep.dom c d M m1) hd) m2
end Go.Proofs.YtmjogmpgamlhaaaGreat

namespace Go.Proofs.YtmjogmpgamlhaaaGreat
open Go Go.RowKit Go.Lib Go.Proofs.YtmjogmpgamlhaaaGreat.Dm

noncomputable def cntM (st q : Int) (l : List MapEntry) : Nat := (l.filter (isM st q)).length

set_option maxRecDepth 100000 in
set_option maxHeartbeats 2000000 in
theorem count_calls {lb o mb clock : Nat} {es : Array MapEntry} (st q : Int) (hst : st ≠ 0) (w : World) (hc : w.cell? ⟨lb, o + 1, none⟩ = some (.map (some mb))) (hb : w.heap[mb]? = some (.map es clock))
    (hold : ∀ x ∈ es.toList, x.born < clock) (hn : (es.toList.map (·.born)).Nodup) (ent : ∀ x ∈ es.toList, ∃ k s p, x.key = .int .i64 k ∧ x.val = .agg #[.int .i64 s, .int .i64 p]) (hsize : es.size ≤ 100000) :
    Calls Tryz.prog 303 #[.pointer (some ⟨lb, o, none⟩), .int .i64 st, .int .i64 q] w fun e w' => e = .returned (.int .i64 (cntM st q es.toList : Nat)) ∧ Below w.heap.size w w' := by
  have hbl : mb < w.heap.size := (Array.getElem?_eq_some_iff.1 hb).1
  have hcl : lb < w.heap.size := World.block_lt_of_cell? w _ hc
  have hz : hasB 0 0 st q = false := by simp [hasB, Ne.symm hst]
  have HH := fun w => has_calls 0 0 st q w
  rw [hz] at HH
  go_enter Tryz.func303, Tryz.ntmps303
  go_wp2_with (first
    | (go_at_call 369; refine (HH _).mono ?_; rintro e w1 ⟨rfl, hb1⟩; have hc1 : w1.cell? ⟨lb, o + 1, none⟩ = some (.map (some mb)) := (hb1.cell (by show lb < _; exact hcl)).trans hc; have hbm1 : w1.heap[mb]? = some (.map es clock) := (hb1.block mb hbl).trans hb)
    | (at_range; refine wpList_range_map rfl _ 357 rfl 3 347 Tryz.underlying357 mb clock es rfl hbm1 ?_)
    | go_in)
  go_frame
  clear HH
  have hiter0 : (w1.alloc (.mapIter (some mb) clock #[] clock)).heap[w1.heap.size]? = some (.mapIter (some mb) clock #[] clock) := heap_alloc_new w1 _
  have hbw : w.heap.size ≤ w1.heap.size := hb1.size
  generalize hr0 : w1.heap.size = r at hiter0 hbw ⊢
  have hb2 : Below w.heap.size w (w1.alloc (.mapIter (some mb) clock #[] clock)) := hb1.alloc hb1.size _
  generalize w1.alloc (.mapIter (some mb) clock #[] clock) = w2 at hiter0 hb2 ⊢
  clear hc1 hbm1 hb1 hr0
  have HST : Aside (st ≠ 0) := hst
  have HBM : Aside (w.heap[mb]? = some (.map es clock)) := hb
  have HN : Aside ((es.toList.map (·.born)).Nodup) := hn
  have HO : Aside (∀ x ∈ es.toList, x.born < clock) := hold
  have HE : Aside (∀ x ∈ es.toList, ∃ k s p, x.key = .int .i64 k ∧ x.val = .agg #[.int .i64 s, .int .i64 p]) := ent
  have HSZ : Aside (es.size ≤ 100000) := hsize
  clear hst hb hc hn hold ent hsize
  go_loopw [7] (fun v wr => ∃ (seen : Array Nat) (vs : List MapEntry), wr.heap[r]? = some (.mapIter (some mb) clock seen clock) ∧ Below w.heap.size w wr ∧ Met es seen vs ∧ v = .int .i64 ((cntM st q vs : Nat) : Int))
    (fun _ wr => (leftOf es (seenAt wr r)).size)
  case atStart => exact ⟨#[], [], hiter0, hb2, ⟨rfl, fun _ h => (by cases h), List.nodup_nil⟩, rfl⟩
  case round =>
    obtain ⟨seen, vs, hit, hbr, hmet, rfl⟩ := hrel
    have hmb : wr.heap[mb]? = some (.map es clock) := (hbr.block mb hbl).trans HBM.out
    have hvl : vs.length ≤ es.size := by
      have hm := hmet.len
      simpa using hm
    have hcv : cntM st q vs ≤ vs.length := List.length_filter_le _ _
    go_wp2_with (first
      | (at_next; refine wpList_next_map rfl _ rfl mb r clock seen es rfl hit hmb HO.out HN.out ?_ ?_)
      | go_in)
    · intro h0
      have hall : ∀ x ∈ es.toList, x.born ∈ seen := fun x hx => by
        have := all_seen es seen (by rw [h0]; rfl) x hx
        simpa using this
      have hperm := hmet.perm HN.out hall
      have hcc : cntM st q vs = cntM st q es.toList := (hperm.filter _).length_eq
      rw [hcc]
      have HBR : Aside (Below w.heap.size w wr) := hbr
      clear hbr hmet hperm hall hit hmb hvl hcv hcc
      go_wp2
      go_ret
      exact ⟨rfl, HBR.out⟩
    · intro en he w3 hit3 hg3 hs3 hen
      have he := Array.mem_toList_iff.2 he
      obtain ⟨hem, hes⟩ := mem_left he
      obtain ⟨k, s, p, hk, hv⟩ := HE.out en hem
      have HISM : Aside (isM st q en = hasB s p st q) := by show _ = _; simp [isM, hv]
      have hes' : ¬ en.born ∈ seen := by simpa using hes
      have HLT : Aside ((leftOf es (seen.push en.born)).size < (leftOf es seen).size) := left_shrinks es seen en he
      have HS0 : Aside (seenAt wr r = seen) := by show _ = _; simp [seenAt, hit]
      have HMET : Aside (Met es (seen.push en.born) (vs ++ [en])) := hmet.push hem hes'
      rw [hk, hv] at hen
      rw [hk, hv]
      have hbr3 : Below w.heap.size w w3 := hbr.grown hg3 hbr.size (fun j hj => by cases hj; exact hbw)
      have HB3 : Aside (Below w.heap.size w w3) := hbr3
      have HIT3 : Aside (w3.heap[r]? = some (.mapIter (some mb) clock (seen.push en.born) clock)) := hit3
      have HRL : Aside (r < w3.heap.size) := (Array.getElem?_eq_some_iff.1 hit3).1
      have HHAS := has_calls s p st q
      have HCV : Aside (cntM st q vs ≤ 100000) := by have := HSZ.out; show _ ≤ _; omega
      have hsz : (w3.alloc (.cells #[.int .i64 s, .int .i64 p] 347)).heap.size = w3.heap.size + 1 := by simp
      have HSZ3 : Aside ((w3.alloc (.cells #[.int .i64 s, .int .i64 p] 347)).heap.size = w3.heap.size + 1) := hsz
      have fin : ∀ w5, Below (w3.alloc (.cells #[.int .i64 s, .int .i64 p] 347)).heap.size (w3.alloc (.cells #[.int .i64 s, .int .i64 p] 347)) w5 → w5.heap[r]? = some (.mapIter (some mb) clock (seen.push en.born) clock) ∧ Below w.heap.size w w5 ∧ (leftOf es (seenAt w5 r)).size < (leftOf es (seenAt wr r)).size := by
        intro w5 hb5
        have hit5 : w5.heap[r]? = some (.mapIter (some mb) clock (seen.push en.born) clock) := by
          rw [hb5.block r (by rw [hsz]; have := HRL.out; omega), heap_alloc_old w3 _ HRL.out]; exact HIT3.out
        refine ⟨hit5, (HB3.out.alloc HB3.out.size _).trans (hb5.mono (by rw [hsz]; have := HB3.out.size; omega)), ?_⟩
        have : seenAt w5 r = seen.push en.born := by simp [seenAt, hit5]
        rw [this, HS0.out]; exact HLT.out
      have FIN : Aside (∀ w5, Below (w3.alloc (.cells #[.int .i64 s, .int .i64 p] 347)).heap.size (w3.alloc (.cells #[.int .i64 s, .int .i64 p] 347)) w5 → w5.heap[r]? = some (.mapIter (some mb) clock (seen.push en.born) clock) ∧ Below w.heap.size w w5 ∧ (leftOf es (seenAt w5 r)).size < (leftOf es (seenAt wr r)).size) := fin
      clear hs3 hbr3 hit3 hg3 hit hbr hmb he hk hv hem hes hes' hmet fin hsz hvl hcv
      cases hm : hasB s p st q with
      | false =>
        have HM : Aside (cntM st q (vs ++ [en]) = cntM st q vs) := by show _ = _; unfold cntM; rw [List.filter_append, List.length_append]; simp [HISM.out, hm]
        rw [hm] at HHAS
        clear hm
        go_wp2_with (first
          | (go_at_call 369; refine (HHAS _).mono ?_; rintro e' w5 ⟨rfl, hb5⟩)
          | go_in)
        obtain ⟨f1, f2, f3⟩ := FIN.out w5 hb5
        exact ⟨⟨seen.push en.born, vs ++ [en], f1, f2, HMET.out, by rw [HM.out]⟩, f3⟩
      | true =>
        have HM : Aside (cntM st q (vs ++ [en]) = cntM st q vs + 1) := by show _ = _; unfold cntM; rw [List.filter_append, List.length_append]; simp [HISM.out, hm]
        rw [hm] at HHAS
        clear hm
        go_wp2_with (first
          | (go_at_call 369; refine (HHAS _).mono ?_; rintro e' w5 ⟨rfl, hb5⟩)
          | go_in)
        obtain ⟨f1, f2, f3⟩ := FIN.out w5 hb5
        refine ⟨⟨seen.push en.born, vs ++ [en], f1, f2, HMET.out, ?_⟩, f3⟩
        rw [HM.out]
        have := HCV.out
        rw [show wrap64 (((cntM st q vs : Nat) : Int) + 1) = ((cntM st q vs + 1 : Nat) : Int) by simp only [wrap64]; omega]
noncomputable def cntA (args : List AV) (h : Heap) : Option AV :=
  match args with
  | [.cv (.sc (.p b o)), .cv (.sc (.i .i64 st)), .cv (.sc (.i .i64 q))] => cnd (ieq st 0) none
    (match h.get b with
      | some (.cells r _) => match r.get (o + 1) with
        | some (.m mr) => match h.get mr with
          | some (.map es ck) => match llist st q ck es [] with
            | some ks => cnd (Nat.ble es.length 100000) (some (.cv (.sc (.i .i64 (.ofNat ks.length))))) none
            | none => none
          | _ => none
        | _ => none
      | _ => none)
  | _ => none
noncomputable def ovCount (call : CallK) : CallK := fun f args h => cnd (Nat.beq f 303)
  (match cntA args h with
  | some v => .ok v h
  | none => call f args h) (call f args h)
theorem enters303 : Dm.Enters Tryz.prog 303 := ⟨Tryz.f303, Tryz.func303, by kernel_rfl, by kernel_rfl⟩
theorem ovCount_ok : OvOk Tryz.prog ovCount := by
  intro call hc f args h v h' hr
  unfold ovCount at hr
  cases hb : Nat.beq f 303 with
  | false => rw [hb] at hr; exact hc f args h v h' hr
  | true =>
    rw [hb] at hr; simp only [cnd_true] at hr
    split at hr
    case h_2 => exact hc f args h v h' hr
    rename_i v0 hr0
    simp only [CRes.ok.injEq] at hr
    obtain ⟨rfl, rfl⟩ := hr
    obtain rfl := Nat.eq_of_beq_eq_true hb
    clear hb hc
    unfold cntA at hr0
    split at hr0
    case h_2 => cases hr0
    rename_i b o st q
    cases hst : ieq st 0 with
    | true => rw [hst] at hr0; cases hr0
    | false =>
    rw [hst] at hr0; simp only [cnd_false] at hr0
    have hst : st ≠ 0 := by rw [ieq_eq] at hst; simpa using hst
    split at hr0
    case h_2 => cases hr0
    rename_i r ro hgb
    split at hr0
    case h_2 => cases hr0
    rename_i mr hrm
    split at hr0
    case h_2 => cases hr0
    rename_i es ck hgm
    split at hr0
    case h_2 => cases hr0
    rename_i ks hks
    cases hl : Nat.ble es.length 100000 with
    | false => rw [hl] at hr0; cases hr0
    | true =>
    rw [hl] at hr0; simp only [cnd_true, Option.some.injEq] at hr0
    subst hr0
    have hl := Nat.le_of_ble_eq_true hl
    refine ⟨enters303, Nat.le_refl _, fun ι w aa rep has hf => ?_⟩
    obtain ⟨aa⟩ := aa
    obtain ⟨a1, a2, a3, rfl⟩ : ∃ a1 a2 a3, aa = [a1, a2, a3] := by
      match aa, has with
      | [a1, a2, a3], _ => exact ⟨a1, a2, a3, rfl⟩
      | [], h => exact h.elim
      | [_], h => exact h.2.elim
      | [_, _], h => exact h.2.2.elim
      | _ :: _ :: _ :: _ :: _, h => exact h.2.2.2.elim
    obtain ⟨h1, h2, h3, -⟩ := has
    obtain ⟨cb, N, e1, rfl⟩ := (show VR ι (.p b o) a1 from h1)
    obtain rfl : a2 = .int .i64 st := h2
    obtain rfl : a3 = .int .i64 q := h3
    obtain ⟨cb', N', g1, cs, el, fr, g2, g3, g4, g5, g6⟩ := rep.obj b _ hgb
    rw [e1] at g1
    simp only [Option.some.injEq, Prod.mk.injEq] at g1
    obtain ⟨rfl, rfl⟩ := g1
    obtain ⟨V, v1, v2⟩ := g5 (o + 1) _ hrm
    obtain ⟨cm, Nm, m1, rfl⟩ := (show VR ι (.m mr) V from v2)
    obtain ⟨cm', Nm', p1, ces, p2, p3⟩ := rep.obj mr _ hgm
    rw [m1] at p1
    simp only [Option.some.injEq, Prod.mk.injEq] at p1
    obtain ⟨rfl, rfl⟩ := p1
    obtain ⟨f1, f2, f3, f4, f5⟩ := llist_fits hks p3
    have hc : w.cell? ⟨cb, o + 1, none⟩ = some (.map (some cm)) := by
      simp only [World.cell?, g2]
      simpa using v1
    have hlen : ces.size ≤ 100000 := by
      have := p3.length
      rw [← Array.length_toList, ← this]; exact hl
    refine (count_calls st q hst w hc p2 f1 f2 f4 hlen).mono ?_
    rintro e w' ⟨rfl, hB⟩
    refine ⟨_, ι, rfl, ?_, post_below rep hB⟩
    show Value.int .i64 _ = .int .i64 _
    rw [f5, List.length_map]
    rfl
end Go.Proofs.YtmjogmpgamlhaaaGreat

namespace Go.Proofs.YtmjogmpgamlhaaaGreat
open Go Go.RowKit Go.Lib Go.Proofs.YtmjogmpgamlhaaaGreat.Dm Go.Sort

set_option maxRecDepth 100000 in
set_option maxHeartbeats 2000000 in
theorem frlist_calls {lb o mb clock : Nat} {es : Array MapEntry} (w : World) (hc : w.cell? ⟨lb, o, none⟩ = some (.map (some mb))) (hb : w.heap[mb]? = some (.map es clock))
    (hold : ∀ x ∈ es.toList, x.born < clock) (hn : (es.toList.map (·.born)).Nodup) (hkeys : ∀ x ∈ es.toList, x.key = .int .i64 (kz x)) (hpos : 0 < es.size) (h12 : es.size ≤ 12) :
    Calls Tryz.prog 308 #[.pointer (some ⟨lb, o, none⟩)] w fun e w' => ∃ g cap, e = .returned (.slice (some ⟨g, 0, none⟩) es.size cap) ∧ Below w.heap.size w w' ∧
      w'.ownsRow w.heap.size 3 1 (.slice (some ⟨g, 0, none⟩) es.size cap) es.size (((es.toList.map kz).mergeSort leI).map (Value.int .i64)) := by
  have hbl : mb < w.heap.size := (Array.getElem?_eq_some_iff.1 hb).1
  have hcl : lb < w.heap.size := World.block_lt_of_cell? w _ hc
  obtain ⟨i0, hi, hz0, hz1, hz2⟩ := info_parts Tryz.info3
  have HP : Aside (0 < es.size ∧ es.size ≤ 12) := ⟨hpos, h12⟩
  have HKEYS : Aside (∀ x ∈ es.toList, x.key = .int .i64 (kz x)) := hkeys
  clear hkeys hpos h12
  go_enter Tryz.func308, Tryz.ntmps308
  go_wp2_with (first
    | (at_range; refine wpList_range_map rfl _ 175 rfl 3 174 Tryz.underlying175 mb clock es rfl hb ?_)
    | go_in)
  go_frame
  have hiter0 : (w.alloc (.mapIter (some mb) clock #[] clock)).heap[w.heap.size]? = some (.mapIter (some mb) clock #[] clock) := heap_alloc_new w _
  generalize hr0 : w.heap.size = r at hiter0 ⊢
  have hb2 : Below r w (w.alloc (.mapIter (some mb) clock #[] clock)) := (Below.refl _ _).alloc (by omega) _
  generalize w.alloc (.mapIter (some mb) clock #[] clock) = w2 at hiter0 hb2 ⊢
  have HBM : Aside (w.heap[mb]? = some (.map es clock)) := hb
  have HN : Aside ((es.toList.map (·.born)).Nodup) := hn
  have HO : Aside (∀ x ∈ es.toList, x.born < clock) := hold
  have HR : Aside (w.heap.size = r) := hr0
  rw [hr0] at hbl
  clear hb hc hn hold hr0
  go_loopw [3] (fun v wr => ∃ (seen : Array Nat) (vs : List MapEntry), wr.heap[r]? = some (.mapIter (some mb) clock seen clock) ∧ Below r w wr ∧ Met es seen vs ∧ wr.ownsRow r 3 1 v vs.length (vs.map (·.key)) ∧ some r ≠ v.ownBlock)
    (fun _ wr => (leftOf es (seenAt wr r)).size)
  case atStart => exact ⟨#[], [], hiter0, hb2, ⟨rfl, fun _ h => (by cases h), List.nodup_nil⟩, World.ownsRow_nil _ _ _ _, by simp [Value.ownBlock]⟩
  case round =>
    obtain ⟨seen, vs, hit, hbr, hmet, hown, hrv⟩ := hrel
    have hmb : wr.heap[mb]? = some (.map es clock) := (hbr.block mb hbl).trans HBM.out
    go_wp2_with (first
      | (at_next; refine wpList_next_map rfl _ rfl mb r clock seen es rfl hit hmb HO.out HN.out ?_ ?_)
      | go_in)
    · intro h0
      have hall : ∀ x ∈ es.toList, x.born ∈ seen := fun x hx => by
        have := all_seen es seen (by rw [h0]; rfl) x hx
        simpa using this
      have hperm := hmet.perm HN.out hall
      have hl : vs.length = es.size := by simpa using hperm.length_eq
      have hkv : vs.map (·.key) = (vs.map kz).map (Value.int .i64) := by
        rw [List.map_map]
        exact List.map_congr_left fun x hx => HKEYS.out x (hmet.mem x hx)
      rw [hkv] at hown
      have hms : (vs.map kz).mergeSort leI = (es.toList.map kz).mergeSort leI := ms_perm (hperm.map kz)
      rcases hown.2 with ⟨_, hh⟩ | ⟨g, cap, cur, rfl, hbase, hgb, hn1, hcm, hsz, htk⟩
      · have := HP.out.1; omega
      have S1 := sortI_calls (base := r) (g := g) (cap := cap) (e := 3) (L := vs.map kz) wr (by simpa using hown) (by rw [List.length_map, hl]; exact HP.out.2) (by rw [List.length_map, hl]; exact HP.out.1)
      rw [show (fun x y => !ltInt y x) = leI from rfl, hms, List.length_map, hl] at S1
      rw [hl]
      clear hkv hms hown htk hsz hcm hn1 hgb hall hmet
      go_wp2_with (first
        | (go_at_call 269; refine S1.mono ?_; rintro e w4 ⟨rfl, hg4, hown4⟩)
        | go_in)
      go_ret
      rw [HR.out]
      exact ⟨g, cap, rfl, hbr.grown hg4 (by rw [← HR.out]; exact hbr.size) (fun j hj => by cases hj; exact hbase), hown4⟩
    · intro en he w3 hit3 hg3 hs3 hen
      have he := Array.mem_toList_iff.2 he
      obtain ⟨hem, hes⟩ := mem_left he
      obtain ⟨k, hk⟩ : ∃ k, en.key = .int .i64 k := ⟨_, HKEYS.out en hem⟩
      have hes' : ¬ en.born ∈ seen := by simpa using hes
      have HLT : Aside ((leftOf es (seen.push en.born)).size < (leftOf es seen).size) := left_shrinks es seen en he
      have HS0 : Aside (seenAt wr r = seen) := by show _ = _; simp [seenAt, hit]
      have HMET : Aside (Met es (seen.push en.born) (vs ++ [en])) := hmet.push hem hes'
      have hle : vs.length < 12 := by
        have hm := (hmet.push hem hes').len
        have := HP.out.2
        simp at hm
        omega
      have HLE : Aside (vs.length < 12) := hle
      have HKEY : Aside (en.key = .int .i64 k) := hk
      rw [hk] at hen
      rw [hk]
      have HB3 : Aside (Below r w w3) := hbr.grown hg3 (by rw [← HR.out]; exact hbr.size) (fun j hj => by cases hj; exact Nat.le_refl _)
      have HSZ3 : Aside (r ≤ w3.heap.size) := by show r ≤ _; rw [← HR.out]; exact HB3.out.size
      have HIT3 : Aside (w3.heap[r]? = some (.mapIter (some mb) clock (seen.push en.born) clock)) := hit3
      have HRL : Aside (r < w3.heap.size) := (Array.getElem?_eq_some_iff.1 hit3).1
      have hown3 : w3.ownsRow r 3 1 u3 vs.length (vs.map (·.key)) := hown.kept hg3 (Or.inr (Ne.symm hrv))
      have HOWN : Aside (some r ≠ u3.ownBlock) := hrv
      clear hs3 hit3 hg3 hit hbr hmb he hk hem hes hes' hmet hown hle hrv
      go_wp2_with (first
        | (at_builtin; refine wpList_append_own_at _ rfl _ _ 22 rfl r 3 i0 (.int .i64 0) 1 8 Tryz.underlying22 hi hz0 hz1 hz2 rfl (by decide) u3 vs.length (vs.map (·.key)) rfl (hown3.alloc _) ⟨w3.heap.size, 0, none⟩ 1 1 [.int .i64 k] rfl rfl (cell_one_new _ _ _) (by simp [Value.oneCell']) (by have := HLE.out; unfold maxLen; omega) (by have := HLE.out; omega) (Nat.le_trans HSZ3.out (by simp)) ?_; intro v' w6 hown' hg6 hnil6 hat6)
        | go_in)
      have hit6 : w6.heap[r]? = some (.mapIter (some mb) clock (seen.push en.born) clock) := by
        rw [hg6.block r (by have := HRL.out; simp; omega) HOWN.out, heap_alloc_old w3 _ HRL.out]; exact HIT3.out
      have hrv6 : some r ≠ v'.ownBlock := by
        rcases hat6 with h | h
        · rw [h]; exact HOWN.out
        · rw [h]; have := HRL.out; simp; omega
      have hB6 : Below r w w6 := (HB3.out.alloc HSZ3.out _).grown hg6 (by have := HSZ3.out; simp; omega) (fun j hj => (hown3.lt j hj).1)
      refine ⟨⟨seen.push en.born, vs ++ [en], hit6, hB6, HMET.out, ?_, hrv6⟩, ?_⟩
      · rw [List.length_append, List.map_append, List.map_cons, List.map_nil, HKEY.out]; exact hown'
      · have : seenAt w6 r = seen.push en.born := by simp [seenAt, hit6]
        rw [this, HS0.out]; exact HLT.out
end Go.Proofs.YtmjogmpgamlhaaaGreat
