/- append, on abstract values. -/
import Derived.Test.YtndbccpaccflcaaGreatDmAp2
set_option linter.unusedVariables false
set_option linter.unusedSimpArgs false
set_option linter.unusedSectionVars false
namespace Go.Proofs.YtndbccpaccflcaaGreat.Dm
open Go

theorem growBy_le (m : Nat) : ∀ (k c : Nat), c ≤ 2 * m + 1000 → Builtin.growBy m k c ≤ 2 * m + 1000
  | 0, c, h => h
  | k + 1, c, h => by
    unfold Builtin.growBy
    split
    · exact h
    · exact growBy_le m k _ (by omega)

theorem room_any {need cap bytes : Nat} (hc : cap < need) (h : roomyAny need bytes = true) : roomy need cap bytes = true := by
  unfold roomyAny at h
  rw [Bool.and_eq_true] at h
  have h1 : (2 * need + 1000) * bytes ≤ 281474976710656 := Nat.le_of_ble_eq_true h.1
  unfold roomy
  rw [Bool.and_eq_true]
  refine ⟨Nat.ble_eq_true_of_le ?_, h.2⟩
  refine Nat.le_trans (Nat.mul_le_mul_right bytes ?_) h1
  unfold Builtin.nextslicecap
  split
  · omega
  · split
    · omega
    · exact growBy_le need 4 cap (by omega)

/-- A row that an append lays. -/
theorem or_grown {ι' : Io} {r : Row} {vs rest : List Value} (hr : RowR ι' r vs) {e : TypeId} {cs : Array Value} {c : Nat} {w' : World} (hcs : cs.toList = vs ++ rest) (hw : w'.heap[c]? = some (.cells cs e)) :
    OR ι' (.cells r false) c cs.size w' := by
  refine ⟨cs, e, (0, 0), hw, rfl, ?_, fun i v hi => ?_, fun _ => .inl rfl⟩
  · rw [hr.1, ← Array.length_toList, hcs]; simp
  · obtain ⟨V, e1, e2⟩ := hr.2 i v hi
    refine ⟨V, ?_, e2⟩
    rw [← Array.getElem?_toList, hcs, List.getElem?_append_left]
    · exact e1
    · rcases Nat.lt_or_ge i vs.length with h1 | h1
      · exact h1
      · rw [List.getElem?_eq_none h1] at e1; cases e1

/-- A row grows into a block of its own. -/
theorem grow_done {ι : Io} {w : World} {h hh : Heap} (hp0 : Post ι h hh w w ι) {r1 : Row} (hf : Free ι hh.next (hh.push (.cells r1 false)).next) {e : TypeId} {vs : List Value} (hr : RowR ι r1 vs)
    {cs : Array Value} {rest : List Value} (hcs : cs.toList = vs ++ rest) {need C z : Nat} (hC : need ≤ C) (hsz : cs.size = C * z) :
    ∃ ι', AVR ι' (.cv (.sc (.sl hh.next 0 need need z false))) (.slice (some ⟨w.heap.size, 0, none⟩) need C) ∧
      Post ι h (hh.push (.cells r1 false)) w { w with drawn := w.drawn + 1, heap := w.heap.push (.cells cs e) } ι' := by
  have hsub : Sub ι (fun b => if b = hh.next then some (w.heap.size, C * z) else ι b) := by
    intro b p hb
    by_cases eb : b = hh.next
    · subst eb; rw [hf hh.next (Nat.le_refl _) (Nat.lt_succ_self _)] at hb; cases hb
    · simp only [if_neg eb]; exact hb
  have hp := Post.push (w' := { w with drawn := w.drawn + 1, heap := w.heap.push (.cells cs e) }) (.cells r1 false) (C * z) hp0.rep hf
    (fun c hc => by show (w.heap.push _)[c]? = _; rw [Array.getElem?_push, if_neg (by omega)]) (by simp) rfl rfl rfl
    (by
      have := or_grown (ι' := fun b => if b = hh.next then some (w.heap.size, C * z) else ι b) (c := w.heap.size) (e := e) (w' := { w with drawn := w.drawn + 1, heap := w.heap.push (.cells cs e) }) (hr.mono hsub) hcs (by simp)
      rw [hsz] at this; exact this)
  exact ⟨_, ⟨w.heap.size, C * z, 0, C, by simp, rfl, Nat.le_refl _, fun hf => (by cases hf), fun _ => ⟨hC, .inr rfl, by omega⟩⟩, hp0.trans hp⟩

section
variable {P : Program} {ty : Ty} (hty : TyOk P ty) {ι : Io} {ρ : Env} {R : Operand → Value} (he : ER ι ρ R) {w : World} {h h' : Heap} (rep : Rep ι w h) {o : Oper} {v : AV}
include hty he rep

theorem ei_two {c : Call} {b : Builtin} {x y : Operand} {V : Value} {w' : World} {ι' : Io} (ho : o.op = .call c) (hc : c.callee = .builtin b) (ha : c.args = #[x, y])
    (hr : (builtin b c.argTypes o.type (c.args.map fun | .const _ => true | _ => false) #[R x, R y]).run P w = .ok (.value V) w') (hv : AVR ι' v V) (hp : Post ι h h' w w' ι') : EOk P ι h h' w R o v := by
  refine ⟨_, V, w', ι', ?_, .inl rfl, hv, hp⟩
  simp only [execOp, ho, resolve, hc, ha, Sem.run_bind, Sem.run_pure, Result.andThen_ok, invoke, List.map_toArray, List.map_cons, List.map_nil] at hr ⊢
  exact hr

theorem ei_one {c : Call} {b : Builtin} {x : Operand} {V : Value} {w' : World} {ι' : Io} (ho : o.op = .call c) (hc : c.callee = .builtin b) (ha : c.args = #[x])
    (hr : (builtin b c.argTypes o.type (c.args.map fun | .const _ => true | _ => false) #[R x]).run P w = .ok (.value V) w') (hv : AVR ι' v V) (hp : Post ι h h' w w' ι') : EOk P ι h h' w R o v := by
  refine ⟨_, V, w', ι', ?_, .inl rfl, hv, hp⟩
  simp only [execOp, ho, resolve, hc, ha, Sem.run_bind, Sem.run_pure, Result.andThen_ok, invoke, List.map_toArray, List.map_cons, List.map_nil] at hr ⊢
  exact hr

set_option maxHeartbeats 1000000 in
theorem e_append {c : Call} {x1 x2 : Operand} {s x : SV} {st xt : TypeId} {ti tx te : TI} {e : TypeId} (ho : o.op = .call c) (hc : c.callee = .builtin .append) (ha : c.args = #[x1, x2])
    (hs : VR ι s (R x1)) (hx : VR ι x (R x2)) (h0 : c.argTypes[0]? = some st) (h1 : c.argTypes[1]? = some xt) (ht : ty st = some ti) (htx : ty xt = some tx) (hk : ti.k = .sl e)
    (hni : ∀ k, tx.k ≠ .int k) (hte : ty e = some te) (hz : zeroFits te = true) {n : Nat} {xr : Row} (hsrc : srcRow h te.size x = some (n, xr))
    (hf : Free ι h.next h'.next)
    (hq : (match s with
      | .nsl => cnd (Nat.beq n 0) (some (AV.cv (.sc .nsl), h))
          (cnd (roomy n 0 te.bytes) (some (.cv (.sc (.sl h.next 0 n n te.size false)), h.push (.cells xr false))) none)
      | .sl b o len cap z ex => cnd (Nat.beq z te.size)
          (match h.get b with
          | some (.cells r ro) =>
            cnd (Nat.ble (Nat.add len n) cap)
              (cnd (Nat.beq n 0) (some (.cv (.sc (.sl b o len cap z ex)), h))
                (match ro, xr.read 0 xr.n with
                | false, some l => match r.write (Nat.add o (Nat.mul len z)) l with
                  | some r' => some (.cv (.sc (.sl b o (Nat.add len n) cap z ex)), h.put b (.cells r' false))
                  | none => none
                | _, _ => none))
              (match subRow r o (Nat.mul len z) with
              | some r0 => match appRow r0 xr with
                | some r1 =>
                  cnd ex
                    (cnd (roomy (Nat.add len n) cap te.bytes)
                      (some (.cv (.sc (.sl h.next 0 (Nat.add len n) (Nat.add len n) z false)), h.push (.cells r1 false))) none)
                    (cnd (Nat.beq o 0 && Nat.blt 0 cap && !ro && roomyAny (Nat.add len n) te.bytes)
                      (some (.cv (.sc (.sl h.next 0 (Nat.add len n) (Nat.add len n) z false)), (h.kill b).push (.cells r1 false))) none)
                | none => none
              | none => none)
          | _ => none) none
      | _ => none) = some (v, h')) : EOk P ι h h' w R o v := by
  obtain ⟨i1, d1, s1⟩ := hty.get ht
  obtain ⟨i2, d2, s2⟩ := hty.get htx
  obtain ⟨i3, d3, s3⟩ := hty.get hte
  have hd := tk_sl (s1.k ▸ hk); subst hd
  have hni' : isInt d2 = false := by
    cases hh : isInt d2 with
    | false => rfl
    | true =>
      cases d2 <;> simp [isInt] at hh
      rename_i k
      exact absurd s2.k (hni k)
  obtain ⟨z, hz1, hz2⟩ : ∃ z, te.zero = some z ∧ z.cells.length = te.size := by
    unfold zeroFits at hz
    split at hz
    · rename_i z hz'; exact ⟨z, hz', Nat.eq_of_beq_eq_true hz⟩
    · cases hz
  obtain ⟨zv, g1, g2⟩ := s3.zero z hz1
  have hzr := CVR.cells (cvOf_rel ι g2)
  have hzs : zv.cells.size = te.size := by have := hzr.length; simp only [Array.length_toList] at this; omega
  obtain ⟨hlen, xs, hxr, hxn, hxf⟩ := src_of (P := P) rep hx hsrc
  have hzc : ∀ k, (Builtin.zeroCells zv.cells k).size = k * te.size := by intro k; simp [Builtin.zeroCells, hzs]
  obtain ⟨us, u1, u2⟩ := hxf w n rfl (Nat.le_refl _)
  obtain ⟨us', u1', u2'⟩ := hxf { w with drawn := w.drawn + 1 } n rfl (Nat.le_refl _)
  have hu2 : us.toList = xs := by rw [u2, ← hxn, List.take_of_length_le (Nat.le_refl _)]
  have hu2' : us'.toList = xs := by rw [u2', ← hxn, List.take_of_length_le (Nat.le_refl _)]
  cases s <;> simp only [reduceCtorEq] at hq
  case nsl =>
    have hS : R x1 = .slice none 0 0 := hs
    cases hn : Nat.beq n 0 with
    | true =>
      rw [hn] at hq; simp only [cnd_true, Option.some.injEq, Prod.mk.injEq] at hq
      obtain ⟨rfl, rfl⟩ := hq
      obtain rfl : n = 0 := Nat.eq_of_beq_eq_true hn
      have := append_room (P := P) (q := o.type) (base := none) (len := 0) (cap := 0) h0 h1 s1.und s2.und hni' s3.info s3.size.symm hlen (Nat.le_refl _) u1 (.inl ⟨rfl, rfl⟩)
      exact ei_two hty he rep (V := .slice none 0 0) ho hc ha (by rw [hS]; simp [builtin, this]) rfl (Post.refl rep)
    | false =>
      rw [hn] at hq; simp only [cnd_false] at hq
      have hn0 : n ≠ 0 := Nat.ne_of_beq_eq_false hn
      cases hro : roomy n 0 te.bytes with
      | false => rw [hro] at hq; cases hq
      | true =>
        rw [hro] at hq; simp only [cnd_true, Option.some.injEq, Prod.mk.injEq] at hq
        obtain ⟨rfl, rfl⟩ := hq
        have hro' : roomy (0 + n) 0 i3.bytes = true := by rw [Nat.zero_add, ← s3.bytes]; exact hro
        obtain ⟨C, c1, c2⟩ := append_grow (P := P) (q := o.type) (w := w) (base := none) (len := 0) (cap := 0) (os := #[]) h0 h1 s1.und s2.und hni' s3.info s3.size.symm hlen g1 (by omega) hro' (by simp [Builtin.firstCells]) u1'
        have hsz : (#[] ++ us' ++ Builtin.zeroCells zv.cells (C - (0 + n))).size = C * te.size := by
          have : us'.size = n * te.size := by rw [← Array.length_toList, hu2', hxn]
          have h3 := Nat.add_mul n (C - n) te.size
          rw [Nat.add_sub_cancel' (by omega : n ≤ C)] at h3
          simp [hzc, this]; omega
        obtain ⟨ι', q1, q2⟩ := grow_done (e := e) (Post.refl rep) hf hxr (cs := #[] ++ us' ++ Builtin.zeroCells zv.cells (C - (0 + n))) (rest := (Builtin.zeroCells zv.cells (C - (0 + n))).toList) (by simp [hu2']) (need := n) (C := C) (by omega) hsz
        exact ei_two hty he rep (V := .slice (some ⟨w.heap.size, 0, none⟩) n C) ho hc ha (by rw [hS]; simp only [builtin, Sem.run_bind, c2, Result.andThen_ok, Sem.run_pure, Nat.zero_add]) q1 q2
  case sl b off len cap z' ex =>
    cases hzz : Nat.beq z' te.size with
    | false => rw [hzz] at hq; cases hq
    | true =>
      rw [hzz] at hq; simp only [cnd_true] at hq
      obtain rfl : z' = te.size := Nat.eq_of_beq_eq_true hzz
      obtain ⟨cb, N, o', cc, hb1, hb2, k0, k1, k2⟩ := hs
      have hcc : cap ≤ cc := by
        cases ex with
        | true => rw [(k1 rfl).2]; exact Nat.le_refl _
        | false => exact (k2 rfl).1
      split at hq
      · rename_i r ro hg
        cases hle : Nat.ble (Nat.add len n) cap with
        | true =>
          rw [hle] at hq; simp only [cnd_true] at hq
          have hle' : len + n ≤ cap := Nat.le_of_ble_eq_true hle
          cases hn : Nat.beq n 0 with
          | true =>
            rw [hn] at hq; simp only [cnd_true, Option.some.injEq, Prod.mk.injEq] at hq
            obtain ⟨rfl, rfl⟩ := hq
            obtain rfl : n = 0 := Nat.eq_of_beq_eq_true hn
            have hus : us.toList = [] := by rw [hu2]; exact List.eq_nil_of_length_eq_zero (by rw [hxn, Nat.zero_mul])
            have := append_room (P := P) (q := o.type) (base := some ⟨cb, o', none⟩) (len := len) (cap := cc) h0 h1 s1.und s2.und hni' s3.info s3.size.symm hlen (by omega) u1
              (.inr ⟨_, rfl, by rw [hus]; simp [storeCells]; rfl⟩)
            exact ei_two hty he rep (V := .slice (some ⟨cb, o', none⟩) len cc) ho hc ha (by rw [hb2]; simp [builtin, this]) ⟨cb, N, o', cc, hb1, rfl, k0, k1, k2⟩ (Post.refl rep)
          | false =>
            rw [hn] at hq; simp only [cnd_false] at hq
            have hn0 : n ≠ 0 := Nat.ne_of_beq_eq_false hn
            have hoff : o' = off := by
              cases ex with
              | true => exact (k1 rfl).1
              | false => exact ((k2 rfl).2.1).resolve_left (by omega)
            subst hoff
            split at hq
            · rename_i l hl
              split at hq
              · rename_i r' hwr
                simp only [Option.some.injEq, Prod.mk.injEq] at hq
                obtain ⟨rfl, rfl⟩ := hq
                have hls := hxr.read hl
                rw [hxr.1, List.take_of_length_le (Nat.le_refl _)] at hls
                rw [← hu2] at hls
                obtain ⟨w', p1, p2⟩ := write_of (P := P) rep hg hb1 hwr hls
                have := append_room (P := P) (q := o.type) (base := some ⟨cb, o', none⟩) (len := len) (cap := cc) (w' := w') h0 h1 s1.und s2.und hni' s3.info s3.size.symm hlen (by omega) u1
                  (.inr ⟨_, rfl, by rw [Addr_add]; exact p1⟩)
                exact ei_two hty he rep (V := .slice (some ⟨cb, o', none⟩) (len + n) cc) ho hc ha (by rw [hb2]; simp [builtin, this]) ⟨cb, N, o', cc, hb1, rfl, hle', k1, k2⟩ p2
              · cases hq
            · cases hq
        | false =>
          rw [hle] at hq; simp only [cnd_false] at hq
          have hgt : cap < len + n := by
            rcases Nat.lt_or_ge cap (len + n) with h2 | h2
            · exact h2
            · rw [show Nat.ble (Nat.add len n) cap = true from Nat.ble_eq_true_of_le h2] at hle; cases hle
          split at hq
          · rename_i r0 hr0
            split at hq
            · rename_i r1 hr1
              -- the old cells
              have hold : ∀ hoff : o' = off, ∃ vo : Array Value, RowR ι r1 (vo.toList ++ xs) ∧ vo.size = len * te.size ∧
                  (Builtin.firstCells te.size len (.slice (some ⟨cb, o', none⟩) len cc)).run P { w with drawn := w.drawn + 1 } = .ok vo { w with drawn := w.drawn + 1 } := by
                intro hoff
                subst hoff
                have rep' : Rep ι { w with drawn := w.drawn + 1 } h := rep.same (fun c _ => rfl) (Nat.le_refl _)
                obtain ⟨vo, e1, e2, e3⟩ := sub_of (P := P) rep' hg hb1 hr0
                exact ⟨vo, e2.app hxr hr1, e3, by simp only [Builtin.firstCells]; exact e1⟩
              have hsz : ∀ (vo : Array Value) (C : Nat), vo.size = len * te.size → len + n ≤ C → (vo ++ us' ++ Builtin.zeroCells zv.cells (C - (len + n))).size = C * te.size := by
                intro vo C hvo hC
                have h2 : us'.size = n * te.size := by rw [← Array.length_toList, hu2', hxn]
                have h3 := Nat.add_mul (len + n) (C - (len + n)) te.size
                rw [Nat.add_sub_cancel' hC, Nat.add_mul] at h3
                simp [hzc, h2, hvo]; omega
              cases ex with
              | true =>
                simp only [cnd_true] at hq
                obtain ⟨rfl, rfl⟩ := k1 rfl
                cases hro : roomy (Nat.add len n) cc te.bytes with
                | false => rw [hro] at hq; cases hq
                | true =>
                  rw [hro] at hq; simp only [cnd_true, Option.some.injEq, Prod.mk.injEq] at hq
                  obtain ⟨rfl, rfl⟩ := hq
                  obtain ⟨vo, w1, w2, w3⟩ := hold rfl
                  obtain ⟨C, c1, c2⟩ := append_grow (P := P) (q := o.type) (w := w) h0 h1 s1.und s2.und hni' s3.info s3.size.symm hlen g1 hgt (by rw [← s3.bytes]; exact hro) w3 u1'
                  obtain ⟨ι', q1, q2⟩ := grow_done (e := e) (Post.refl rep) hf w1 (cs := vo ++ us' ++ Builtin.zeroCells zv.cells (C - (len + n))) (rest := (Builtin.zeroCells zv.cells (C - (len + n))).toList) (by simp [hu2']) (need := len + n) (C := C) c1 (hsz vo C w2 c1)
                  exact ei_two hty he rep (V := .slice (some ⟨w.heap.size, 0, none⟩) (len + n) C) ho hc ha (by rw [hb2]; simp only [builtin, Sem.run_bind, c2, Result.andThen_ok, Sem.run_pure]) q1 q2
              | false =>
                simp only [cnd_false] at hq
                cases hco : (Nat.beq off 0 && Nat.blt 0 cap && !ro && roomyAny (Nat.add len n) te.bytes) with
                | false => rw [hco] at hq; cases hq
                | true =>
                  rw [hco] at hq; simp only [cnd_true, Option.some.injEq, Prod.mk.injEq] at hq
                  obtain ⟨rfl, rfl⟩ := hq
                  simp only [Bool.and_eq_true, Bool.not_eq_true'] at hco
                  obtain ⟨⟨⟨q0, q1⟩, q2⟩, q3⟩ := hco
                  obtain rfl : off = 0 := Nat.eq_of_beq_eq_true q0
                  have hcap : 0 < cap := Nat.le_of_ble_eq_true q1
                  subst q2
                  obtain ⟨j1, j2, j3⟩ := k2 rfl
                  obtain rfl : o' = 0 := j2.resolve_left (by omega)
                  by_cases hroom : len + n ≤ cc
                  · -- there was room
                    obtain ⟨cb', N', gg, cs, el, fr, m1, m2, m3, m4, m5⟩ := rep.obj b _ hg
                    rw [hb1] at gg; simp only [Option.some.injEq, Prod.mk.injEq] at gg
                    obtain ⟨rfl, rfl⟩ := gg
                    have hus : us.toList.length = n * te.size := by rw [hu2, hxn]
                    have hmul : (len + n) * te.size ≤ cc * te.size := Nat.mul_le_mul_right _ hroom
                    rw [Nat.add_mul] at hmul
                    have hone : ∀ v ∈ us.toList, v.oneCell' = true := by rw [hu2]; exact hxr.one
                    obtain ⟨w', cs', p1, p2, p3, p4, p5⟩ := store_run (P := P) (cb := cb) (o := len * te.size) us.toList 0 w cs m1 (by omega) (by rw [m2]; exact m5 rfl) hone
                    have happ := append_room (P := P) (q := o.type) (base := some ⟨cb, 0, none⟩) (len := len) (cap := cc) (w' := w') h0 h1 s1.und s2.und hni' s3.info s3.size.symm hlen hroom u1
                      (.inr ⟨_, rfl, by rw [Addr_add, Nat.zero_add]; exact p1⟩)
                    obtain ⟨vo, e1, e2, e3⟩ := sub_of (P := P) (k := len * te.size) rep hg hb1 hr0
                    have hr1' := e2.app hxr hr1
                    have hsub : Sub ι (fun x => if x = h.next then some (cb, N) else ι x) := by
                      intro x p hx
                      by_cases eb : x = h.next
                      · subst eb; rw [hf h.next (Nat.le_refl _) (Nat.lt_succ_self _)] at hx; cases hx
                      · simp only [if_neg eb]; exact hx
                    have hrn : r1.n = len * te.size + n * te.size := by rw [hr1'.1, List.length_append, Array.length_toList, e3, hxn]
                    have hmv := Post.move (w' := w') (o' := .cells r1 false) rep hf hg hb1 p2.other p2.size p2.tape p2.os p2.output
                      ⟨cs', el, fr, p3, by omega, by omega, (by
                        intro i v hi
                        obtain ⟨V, f1, f2⟩ := (hr1'.mono hsub).2 i v hi
                        refine ⟨V, ?_, f2⟩
                        rw [p5 i]
                        by_cases hlt : i < len * te.size
                        · rw [if_neg (by omega)]
                          rw [List.getElem?_append_left (by rw [Array.length_toList, e3]; exact hlt)] at f1
                          -- the old cells are still there
                          have hcells : ∀ k, k < len * te.size → ∃ v, w.cell? (Addr.add ⟨cb, 0, none⟩ k) = some v := by
                            intro k hk
                            rw [Addr_add, Nat.zero_add]
                            simp only [World.cell?, m1]
                            have hk' : k < cs.size := by omega
                            exact ⟨cs[k], by simp [hk']⟩
                          obtain ⟨l, l1, l2⟩ := cells_list hcells
                          have h3 := loadCells_from (P := P) (w := w) (a := ⟨cb, 0, none⟩) l 0 #[] l2
                          rw [l1] at h3
                          unfold loadCells at e1
                          rw [e1] at h3
                          simp only [Result.ok.injEq, and_true] at h3
                          have h4 : vo.toList = l := by rw [h3]; simp
                          rw [h4] at f1
                          have := l2 i V f1
                          rw [Addr_add, Nat.zero_add, Nat.zero_add] at this
                          simp only [World.cell?, m1] at this
                          simpa using this
                        · have hlt2 : i < r1.n := Row.get_lt hi
                          rw [if_pos (by omega)]
                          rw [List.getElem?_append_right (by rw [Array.length_toList, e3]; omega), Array.length_toList, e3] at f1
                          rw [hu2, Nat.add_zero]; exact f1), fun _ => m5 rfl⟩
                    refine ei_two hty he rep (V := .slice (some ⟨cb, 0, none⟩) (len + n) cc) ho hc ha (by rw [hb2]; simp only [builtin, Sem.run_bind, happ, Result.andThen_ok, Sem.run_pure]) ?_ hmv
                    exact ⟨cb, N, 0, cc, by simp, rfl, Nat.le_refl _, fun hf => (by cases hf), fun _ => ⟨hroom, .inr rfl, j3⟩⟩
                  · -- it grows
                    obtain ⟨vo, w1, w2, w3⟩ := hold rfl
                    have hgt' : cc < len + n := by omega
                    have hk := Post.kill b rep
                    obtain ⟨C, c1, c2⟩ := append_grow (P := P) (q := o.type) (w := w) h0 h1 s1.und s2.und hni' s3.info s3.size.symm hlen g1 hgt' (by rw [← s3.bytes]; exact room_any hgt' q3) w3 u1'
                    obtain ⟨ι', q1, q2⟩ := grow_done (e := e) hk hf w1 (cs := vo ++ us' ++ Builtin.zeroCells zv.cells (C - (len + n))) (rest := (Builtin.zeroCells zv.cells (C - (len + n))).toList) (by simp [hu2']) (need := len + n) (C := C) c1 (hsz vo C w2 c1)
                    exact ei_two hty he rep (V := .slice (some ⟨w.heap.size, 0, none⟩) (len + n) C) ho hc ha (by rw [hb2]; simp only [builtin, Sem.run_bind, c2, Result.andThen_ok, Sem.run_pure]) q1 q2
            · cases hq
          · cases hq
      · cases hq

end
end Go.Proofs.YtndbccpaccflcaaGreat.Dm
