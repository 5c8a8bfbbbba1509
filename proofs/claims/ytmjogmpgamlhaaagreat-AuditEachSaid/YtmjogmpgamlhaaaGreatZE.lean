/- phys.Mem.Clear in place of its run, where the frame is there and noughts. -/
import Derived.Test.YtmjogmpgamlhaaaGreatZP
import Derived.Test.YtmjogmpgamlhaaaGreatNJ
import Derived.Test.YtmjogmpgamlhaaaGreatSO1
import Derived.Test.YtmjogmpgamlhaaaGreatDGZ
set_option linter.unusedVariables false
set_option linter.unusedSimpArgs false
set_option linter.unusedSectionVars false
set_option maxRecDepth 100000
namespace Go.Proofs.YtmjogmpgamlhaaaGreat
open Go Go.RowKit Go.Lib Go.Proofs.YtmjogmpgamlhaaaGreat.Dm

theorem trKeys_sub {α : Type} {t : Tr α} : ∀ {k0 s : Nat} {l : List Nat} {x : Nat}, x ∈ l → x ∈ trKeys t k0 s l := by
  induction t with
  | e => exact fun h => h
  | n v a b ia ib =>
    intro k0 s l x hx
    cases v with
    | none => exact ia (ib hx)
    | some v => exact List.mem_cons_of_mem _ (ia (ib hx))
theorem trKeys_mem {α : Type} {t : Tr α} : ∀ {k0 s : Nat} {l : List Nat} {k : Nat} {v : α}, t.get k = some v → k0 + s * k ∈ trKeys t k0 s l := by
  induction t with
  | e => intro k0 s l k v h; cases h
  | n u a b ia ib =>
    intro k0 s l k v h
    rw [Tr.get_n] at h
    have go : ∀ {x : Nat}, x ∈ trKeys a (Nat.add k0 s) (Nat.mul 2 s) (trKeys b (Nat.add k0 (Nat.mul 2 s)) (Nat.mul 2 s) l) → x ∈ trKeys (.n u a b) k0 s l := by
      intro x hx
      cases u with
      | none => exact hx
      | some u => exact List.mem_cons_of_mem _ hx
    rcases Tr.key_cases k with ⟨c1, c2⟩ | ⟨c1, c2, c3⟩ | ⟨c1, c2, c3⟩
    · rw [c1] at h; simp only [cnd_true] at h
      subst h c2
      simp only [Nat.mul_zero, Nat.add_zero]
      exact List.mem_cons_self
    · rw [c1, c2] at h; simp only [cnd_false, cnd_true] at h
      have := ia (k0 := Nat.add k0 s) (s := Nat.mul 2 s) (l := trKeys b (Nat.add k0 (Nat.mul 2 s)) (Nat.mul 2 s) l) h
      have e : k0 + s * k = Nat.add k0 s + Nat.mul 2 s * Nat.div k 2 := by
        show _ = k0 + s + 2 * s * (Nat.div k 2)
        generalize Nat.div k 2 = q at c3
        subst c3
        rw [Nat.mul_add, Nat.mul_one, Nat.mul_left_comm, ← Nat.mul_assoc]; omega
      rw [e]; exact go this
    · rw [c1, c2] at h; simp only [cnd_false] at h
      have := ib (k0 := Nat.add k0 (Nat.mul 2 s)) (s := Nat.mul 2 s) (l := l) h
      have e : k0 + s * k = Nat.add k0 (Nat.mul 2 s) + Nat.mul 2 s * Nat.pred (Nat.div k 2) := by
        show _ = k0 + 2 * s + 2 * s * (Nat.pred (Nat.div k 2))
        generalize Nat.pred (Nat.div k 2) = q at c3
        subst c3
        rw [Nat.mul_add, Nat.mul_left_comm, ← Nat.mul_assoc, Nat.mul_comm s 2]; omega
      rw [e]; exact go (trKeys_sub this)

theorem opsW_post {ι : Io} {w w' : World} {h : Heap} {m cb N j : Nat} {rm : Row} (rep : Rep ι w h) (hm : h.get m = some (.cells rm false)) (hi : ι m = some (cb, N)) (o : OpsW cb j w w') :
    Post ι h (h.put m (.cells ⟨rm.n, rm.d, rm.t.put (some (.un .i64)) j⟩ false)) w w' ι := by
  obtain ⟨cb', N', g0, cs, el, fr, g1, g2, g3, g4, g5⟩ := rep.obj m _ hm
  rw [hi] at g0; simp only [Option.some.injEq, Prod.mk.injEq] at g0
  obtain ⟨rfl, rfl⟩ := g0
  obtain ⟨cs', el', fr', k, k1, k2, k3⟩ := o.own
  rw [g1] at k1
  simp only [Option.some.injEq, Obj.cells.injEq] at k1
  obtain ⟨rfl, rfl, rfl⟩ := k1
  have hcb : cb < w.heap.size := (Array.getElem?_eq_some_iff.1 g1).1
  have P1 : Post ι h (h.put m (.cells ⟨rm.n, rm.d, rm.t.put (some (.un .i64)) j⟩ false)) w { w with heap := w.heap.setIfInBounds cb (.cells (cs.setIfInBounds j (.int .i64 k)) el fr) } ι := by
    refine Post.put rep hm hi (fun c hc => ?_) (by simp) rfl rfl rfl ⟨cs.setIfInBounds j (.int .i64 k), el, fr, ?_, by simpa using g2, g3, fun i v hv => ?_, g5⟩
    · simp [Ne.symm hc]
    · simp [hcb]
    · have hget : ∀ t, Row.get ⟨rm.n, rm.d, t⟩ i = cnd (Nat.blt i rm.n) (match t.get i with | some v => some v | none => some rm.d) none := fun t => rfl
      have h4 := g4 i
      rw [show rm.get i = _ from hget rm.t] at h4
      rw [hget] at hv
      cases hb : Nat.blt i rm.n with
      | false => rw [hb] at hv; cases hv
      | true =>
        rw [hb] at hv h4
        simp only [cnd_true, Tr.get_put] at hv h4
        by_cases e : i = j
        · subst e
          simp only [if_true, Option.some.injEq] at hv
          subst hv
          exact ⟨.int .i64 k, by simp [k2], k, rfl⟩
        · simp only [if_neg e] at hv
          obtain ⟨V, e1, e2⟩ := h4 v hv
          exact ⟨V, by rw [Array.getElem?_setIfInBounds, if_neg (Ne.symm e)]; exact e1, e2⟩
  refine P1.trans (post_below P1.rep ⟨o.os, o.tape, o.output, by simpa using o.size, fun c hc => ?_⟩)
  have hc : c < w.heap.size := by simpa using hc
  by_cases e : c = cb
  · subst e; rw [k3]; simp [hcb]
  · rw [o.blk c hc e]; simp [Ne.symm e]
end Go.Proofs.YtmjogmpgamlhaaaGreat

set_option maxRecDepth 100000
namespace Go.Proofs.YtmjogmpgamlhaaaGreat
open Go Go.RowKit Go.Lib Go.Proofs.YtmjogmpgamlhaaaGreat.Dm

noncomputable def isZ0 (r : Row) (lo hi : Nat) : Bool := Nat.ble hi r.n && (sveq r.d (.i .u8 (.ofNat 0)) && ((trKeys r.t 0 1 []).all fun k => Nat.blt k lo || Nat.ble hi k))
theorem isZ0_get {r : Row} {lo hi : Nat} (h : isZ0 r lo hi = true) {x : Nat} (h1 : lo ≤ x) (h2 : x < hi) : r.get x = some (.i .u8 (.ofNat 0)) := by
  unfold isZ0 at h
  simp only [Bool.and_eq_true] at h
  obtain ⟨a1, a2, a3⟩ := h
  have a1 := Nat.le_of_ble_eq_true a1
  have a2 := sveq_eq a2
  have hget : r.get x = cnd (Nat.blt x r.n) (match r.t.get x with | some v => some v | none => some r.d) none := rfl
  rw [hget, show Nat.blt x r.n = true from Nat.ble_eq_true_of_le (by omega)]
  simp only [cnd_true]
  cases hx : r.t.get x with
  | none => simp only [a2]
  | some v =>
    have hm := trKeys_mem (k0 := 0) (s := 1) (l := []) hx
    rw [Nat.zero_add, Nat.one_mul] at hm
    have := List.all_eq_true.1 a3 x hm
    simp only [Bool.or_eq_true] at this
    rcases this with h | h
    · have := Nat.le_of_ble_eq_true h; omega
    · have := Nat.le_of_ble_eq_true h; omega

noncomputable def intish : SV → Bool
  | .i .i64 _ => true
  | .un .i64 => true
  | _ => false

noncomputable def tab4 (h : Heap) (b : Nat) (cap : Nat) (o : Nat) : Option Row := cnd (Nat.beq o 0 && Nat.beq cap 4096) (match h.get b with
  | some (.cells r _) => some r
  | _ => none) none
noncomputable def tab3 (h : Heap) (pg f : Nat) : Option (Nat × Row) := match h.get pg with
  | some (.map es _) => match placeA (tiOf Tryz.prog) 3 (.sc (.i .i64 (.ofNat f))) 0 es with
    | some (some x) => match es[x]? with
      | some e => match e.val with
        | .sc (.sl b o 4096 cap 1 false) => match tab4 h b cap o with
          | some r => some (b, r)
          | none => none
        | _ => none
      | none => none
    | _ => none
  | _ => none
noncomputable def tab2 (h : Heap) (t to : Nat) : Option (Nat × Nat × Nat × Nat × Row) := match h.get t with
  | some (.cells rt _) => match rt.get to with
    | some (.p fb fo) => match h.get fb with
      | some (.cells rf _) => match rf.get fo with
        | some (.p m mo) => match h.get m with
          | some (.cells rm false) => some (fb, fo, m, mo, rm)
          | _ => none
        | _ => none
      | _ => none
    | _ => none
  | _ => none
noncomputable def tabM (rm : Row) (mo : Nat) : Option (Nat × Nat) := match rm.get mo, rm.get (Nat.add mo 1), rm.get (Nat.add mo 2) with
  | some (.i .i64 (.ofNat nf)), some (.m pg), some u => cnd (intish u) (some (nf, pg)) none
  | _, _, _ => none
noncomputable def tab1 (fr : Fr) : Option (Nat × Nat × Nat × Nat) := match fr.t.get 0, fr.t.get 1, fr.t.get 2 with
  | some (.cv (.sc (.p t to))), some (.cv (.sc (.i .u64 (.ofNat tab)))), some (.cv (.sc (.i .i64 (.ofNat lv)))) => some (t, to, tab, lv)
  | _, _, _ => none

noncomputable def condA (t fb m b lv f nf j : Nat) : Bool := !(Nat.beq t m) && (!(Nat.beq fb m) && (!(Nat.beq b m) && (Nat.blt lv 4 && (Nat.blt f nf && (Nat.blt nf 1000000 && (Nat.ble j 512 && keyV (tiOf Tryz.prog) 12 3 (.sc (.i .i64 (.ofNat f)))))))))

noncomputable def skipA (h : Heap) (fr : Fr) (i j : Nat) : Option Heap := match tab1 fr with
  | some (t, to, tab, lv) => cnd (Nat.beq (Nat.mod tab 4096) 0) (match tab2 h t to with
    | some (fb, fo, m, mo, rm) => match tabM rm mo with
      | some (nf, pg) => match tab3 h pg (Nat.div tab 4096) with
        | some (b, r) => cnd (condA t fb m b lv (Nat.div tab 4096) nf j && isZ0 r (Nat.mul 8 i) (Nat.mul 8 j)) (some (h.put m (.cells ⟨rm.n, rm.d, rm.t.put (some (.un .i64)) (Nat.add mo 2)⟩ false))) none
        | none => none
      | none => none
    | none => none) none
  | none => none

noncomputable def frZ (fr : Fr) (j : Nat) : Fr := ⟨fr.n, (pick fr.t [0, 1, 2, 3, 4]).put (some (.cv (.sc (.i .i64 (.ofNat j))))) 17⟩

theorem cellA {ι : Io} {w : World} {h : Heap} {b cb N x : Nat} {r : Row} {ro : Bool} {v : SV} (rep : Rep ι w h) (hg : h.get b = some (.cells r ro)) (hi : ι b = some (cb, N)) (hx : r.get x = some v) : ∃ V, w.cell? ⟨cb, x, none⟩ = some V ∧ VR ι v V := by
  obtain ⟨cb', N', g0, cs, el, fr, g1, g2, g3, g4, g5⟩ := rep.obj b _ hg
  rw [hi] at g0; simp only [Option.some.injEq, Prod.mk.injEq] at g0
  obtain ⟨rfl, rfl⟩ := g0
  obtain ⟨V, e1, e2⟩ := g4 x v hx
  refine ⟨V, ?_, e2⟩
  unfold World.cell?
  simp only [g1, Option.isSome_none, Bool.false_eq_true, if_false]
  exact e1
theorem frozenA {ι : Io} {w : World} {h : Heap} {b cb N : Nat} {r : Row} (rep : Rep ι w h) (hg : h.get b = some (.cells r false)) (hi : ι b = some (cb, N)) (x : Nat) : w.frozen? ⟨cb, x, none⟩ = false := by
  obtain ⟨cb', N', g0, cs, el, fr, g1, g2, g3, g4, g5⟩ := rep.obj b _ hg
  rw [hi] at g0; simp only [Option.some.injEq, Prod.mk.injEq] at g0
  obtain ⟨rfl, rfl⟩ := g0
  have := g5 rfl
  obtain ⟨lo, hi⟩ := fr
  unfold World.frozen?
  simp only [g1]
  simp only at this
  subst this
  simp

theorem tab1_eq {fr : Fr} {t to tab lv : Nat} (h : tab1 fr = some (t, to, tab, lv)) : fr.t.get 0 = some (.cv (.sc (.p t to))) ∧ fr.t.get 1 = some (.cv (.sc (.i .u64 (.ofNat tab)))) ∧ fr.t.get 2 = some (.cv (.sc (.i .i64 (.ofNat lv)))) := by
  unfold tab1 at h
  split at h
  · rename_i h1 h2 h3
    simp only [Option.some.injEq, Prod.mk.injEq] at h
    obtain ⟨rfl, rfl, rfl, rfl⟩ := h
    exact ⟨h1, h2, h3⟩
  · cases h
theorem tab2_eq {h : Heap} {t to fb fo m mo : Nat} {rm : Row} (e : tab2 h t to = some (fb, fo, m, mo, rm)) : ∃ rt r1 rf r2, h.get t = some (.cells rt r1) ∧ rt.get to = some (.p fb fo) ∧ h.get fb = some (.cells rf r2) ∧ rf.get fo = some (.p m mo) ∧ h.get m = some (.cells rm false) := by
  unfold tab2 at e
  split at e
  case h_2 => cases e
  rename_i rt r1 h1
  split at e
  case h_2 => cases e
  rename_i fb' fo' h2
  split at e
  case h_2 => cases e
  rename_i rf r2 h3
  split at e
  case h_2 => cases e
  rename_i m' mo' h4
  split at e
  case h_2 => cases e
  rename_i rm' h5
  simp only [Option.some.injEq, Prod.mk.injEq] at e
  obtain ⟨rfl, rfl, rfl, rfl, rfl⟩ := e
  exact ⟨rt, r1, rf, r2, h1, h2, h3, h4, h5⟩
theorem tabM_eq {rm : Row} {mo nf pg : Nat} (e : tabM rm mo = some (nf, pg)) : rm.get mo = some (.i .i64 (.ofNat nf)) ∧ rm.get (mo + 1) = some (.m pg) ∧ ∃ u, rm.get (mo + 2) = some u ∧ intish u = true := by
  unfold tabM at e
  split at e
  case h_2 => cases e
  rename_i nf' pg' u h1 h2 h3
  cases hu : intish u with
  | false => rw [hu] at e; cases e
  | true =>
    rw [hu] at e
    simp only [cnd_true, Option.some.injEq, Prod.mk.injEq] at e
    obtain ⟨rfl, rfl⟩ := e
    exact ⟨h1, h2, u, h3, hu⟩
theorem tab3_eq {h : Heap} {pg f b : Nat} {r : Row} (e : tab3 h pg f = some (b, r)) : ∃ es ck x en ro, h.get pg = some (.map es ck) ∧ placeA (tiOf Tryz.prog) 3 (.sc (.i .i64 (.ofNat f))) 0 es = some (some x) ∧ es[x]? = some en ∧ en.val = .sc (.sl b 0 4096 4096 1 false) ∧ h.get b = some (.cells r ro) := by
  unfold tab3 at e
  split at e
  case h_2 => cases e
  rename_i es ck h1
  split at e
  case h_2 => cases e
  rename_i x h2
  split at e
  case h_2 => cases e
  rename_i en h3
  split at e
  case h_2 => cases e
  rename_i b' o cap h4
  split at e
  case h_2 => cases e
  rename_i r' h5
  simp only [Option.some.injEq, Prod.mk.injEq] at e
  obtain ⟨rfl, rfl⟩ := e
  unfold tab4 at h5
  cases hc : (Nat.beq o 0 && Nat.beq cap 4096) with
  | false => rw [hc] at h5; cases h5
  | true =>
    rw [hc] at h5
    simp only [cnd_true] at h5
    simp only [Bool.and_eq_true] at hc
    have c1 := Nat.eq_of_beq_eq_true hc.1
    have c2 := Nat.eq_of_beq_eq_true hc.2
    subst c1 c2
    split at h5
    case h_2 => cases h5
    rename_i r2 ro h6
    simp only [Option.some.injEq] at h5
    subst h5
    exact ⟨es, ck, x, en, ro, h1, h2, h3, h4, h6⟩
theorem beqF {a b : Nat} (h : (!(Nat.beq a b)) = true) : a ≠ b := by
  rintro rfl
  simp at h
theorem intish_eq {ι : Io} {u : SV} {V : Value} (h : intish u = true) (hv : VR ι u V) : ∃ n, V = .int .i64 n := by
  cases u <;> try (simp [intish] at h; done)
  · rename_i k n
    cases k <;> simp [intish] at h
    exact ⟨n, hv⟩
  · rename_i k
    cases k <;> simp [intish] at h
    exact hv
end Go.Proofs.YtmjogmpgamlhaaaGreat

set_option maxRecDepth 100000
namespace Go.Proofs.YtmjogmpgamlhaaaGreat
open Go Go.RowKit Go.Lib Go.Proofs.YtmjogmpgamlhaaaGreat.Dm

theorem und3 : Tryz.prog.underlying 3 = some (.int .i64) := by kernel_rfl

theorem get_ptr {ι : Io} {b o : Nat} {V : Value} (h : VR ι (.p b o) V) : ∃ cb N, ι b = some (cb, N) ∧ V = .pointer (some ⟨cb, o, none⟩) := h

theorem skip_endsR {r : Res} (hg : r.good = true) {h h' : Heap} {fr : Fr} {i d n : Nat} {st : List It} (hn : fr.n = 67) (h17 : fr.t.get 17 = some (.cv (.sc (.i .i64 (.ofNat i))))) (hs : skipA h fr i (i + d) = some h')
    (k : EndsR Tryz.prog r (.rep eachB n :: st) (frZ fr (i + d)) h') : EndsR Tryz.prog r (.rep eachB (n + d) :: st) fr h := by
  unfold skipA at hs
  split at hs
  case h_2 => cases hs
  rename_i t to tab lv e1
  cases htab : Nat.beq (Nat.mod tab 4096) 0 with
  | false => rw [htab] at hs; cases hs
  | true =>
  rw [htab] at hs; simp only [cnd_true] at hs
  split at hs
  case h_2 => cases hs
  rename_i fb fo m mo rm e2
  split at hs
  case h_2 => cases hs
  rename_i nf pg e3
  split at hs
  case h_2 => cases hs
  rename_i b rr e4
  cases hcd : (condA t fb m b lv (Nat.div tab 4096) nf (i + d) && isZ0 rr (Nat.mul 8 i) (Nat.mul 8 (i + d))) with
  | false => rw [hcd] at hs; cases hs
  | true =>
  rw [hcd] at hs; simp only [cnd_true, Option.some.injEq] at hs
  have htab' : tab = 4096 * (Nat.div tab 4096) := by
    have h1 : tab % 4096 = 0 := Nat.eq_of_beq_eq_true htab
    show tab = 4096 * (tab / 4096)
    omega
  generalize Nat.div tab 4096 = f at hcd e4 htab'
  subst htab'
  simp only [condA, Bool.and_eq_true] at hcd
  obtain ⟨⟨c1, c2, c3, c4, c5, c6, c7, c8⟩, cz⟩ := hcd
  have c1 := beqF c1
  have c2 := beqF c2
  have c3 := beqF c3
  have c4 : lv < 4 := Nat.le_of_ble_eq_true c4
  have c5 : f < nf := Nat.le_of_ble_eq_true c5
  have c6 : nf < 1000000 := Nat.le_of_ble_eq_true c6
  have c7 : i + d ≤ 512 := Nat.le_of_ble_eq_true c7
  obtain ⟨s0, s1, s2⟩ := tab1_eq e1
  obtain ⟨rt, r1, rf, r2, t1, t2, t3, t4, t5⟩ := tab2_eq e2
  obtain ⟨m1, m2, u, m3, m4⟩ := tabM_eq e3
  obtain ⟨es, ck, x, en, ro, p1, p2, p3, p4, p5⟩ := tab3_eq e4
  subst hs
  refine ⟨k.1, fun ι a w g1 g2 g3 => ?_⟩
  obtain ⟨V0, a0, b0⟩ := g1.2 0 _ s0
  obtain ⟨V1, a1, b1⟩ := g1.2 1 _ s1
  obtain ⟨V2, a2, b2⟩ := g1.2 2 _ s2
  obtain ⟨V17, a17, b17⟩ := g1.2 17 _ h17
  have hsz : a.tmps.size = 67 := g1.1.trans hn
  obtain ⟨V3, a3⟩ : ∃ V, a.tmps[3]? = some V := ⟨_, Array.getElem?_eq_getElem (by omega)⟩
  obtain ⟨V4, a4⟩ : ∃ V, a.tmps[4]? = some V := ⟨_, Array.getElem?_eq_getElem (by omega)⟩
  obtain ⟨tb, Nt, it, rfl⟩ := get_ptr b0
  have b1 : V1 = .int .u64 ((4096 * f : Nat) : Int) := b1
  have b2 : V2 = .int .i64 (lv : Int) := b2
  have b17 : V17 = .int .i64 (i : Int) := b17
  subst b1 b2 b17
  obtain ⟨_, q1, q2⟩ := cellA g2 t1 it t2
  obtain ⟨fbw, Nf, ifb, rfl⟩ := get_ptr q2
  obtain ⟨_, q3, q4⟩ := cellA g2 t3 ifb t4
  obtain ⟨mb, Nm, im, rfl⟩ := get_ptr q4
  obtain ⟨_, q5, q6⟩ := cellA g2 t5 im m1
  have q6 : _ = Value.int .i64 (nf : Int) := q6
  subst q6
  obtain ⟨_, q7, pgw, Npg, ipg, rfl⟩ := cellA g2 t5 im m2
  obtain ⟨_, q9, q10⟩ := cellA g2 t5 im m3
  obtain ⟨kk, rfl⟩ := intish_eq m4 q10
  have q11 := frozenA g2 t5 im (mo + 2)
  obtain ⟨pgw', Npg', g0, ces, w1, w2⟩ := g2.obj pg _ p1
  rw [ipg] at g0; simp only [Option.some.injEq, Prod.mk.injEq] at g0
  obtain ⟨rfl, rfl⟩ := g0
  obtain ⟨en', y1, y2, y3, y4⟩ := w2.get p3
  rw [p4] at y3
  obtain ⟨rb, Nb, o', capc, ib, y5, y6, y7, y8⟩ : VR ι (.sl b 0 4096 4096 1 false) en'.val := y3
  obtain ⟨z1, z2, z3, z4⟩ := y8 rfl
  have z2 : o' = 0 := by rcases z2 with h | h; exact absurd h (by decide); exact h
  subst z2
  have hrb : rb < w.heap.size := g2.dom b rb Nb ib
  have hmne : pgw ≠ mb := by
    intro e
    subst e
    obtain ⟨cb', N', g0, cs, el, fr', v1, _⟩ := g2.obj m _ t5
    rw [im] at g0; simp only [Option.some.injEq, Prod.mk.injEq] at g0
    obtain ⟨rfl, rfl⟩ := g0
    rw [w1] at v1; cases v1
  have sizes : ∀ {b' : Nat} {rr' : Row} {ro' : Bool} {cb N : Nat}, h.get b' = some (.cells rr' ro') → ι b' = some (cb, N) → ∃ cs el fr', w.heap[cb]? = some (.cells cs el fr') ∧ cs.size = N := by
    intro b' rr' ro' cb N hb hi
    obtain ⟨cb', N', g0, cs, el, fr', v1, v2, _⟩ := g2.obj b' _ hb
    rw [hi] at g0; simp only [Option.some.injEq, Prod.mk.injEq] at g0
    obtain ⟨rfl, rfl⟩ := g0
    exact ⟨cs, el, fr', v1, v2⟩
  have apart : ∀ {b' : Nat} {rr' : Row} {ro' : Bool} {cb N : Nat}, h.get b' = some (.cells rr' ro') → ι b' = some (cb, N) → b' ≠ m → cb ≠ mb := by
    intro b' rr' ro' cb N hb hi hne e
    subst e
    obtain ⟨cs, el, f1, v1, v2⟩ := sizes hb hi
    obtain ⟨cs', el', f1', v1', v2'⟩ := sizes t5 im
    rw [v1] at v1'
    simp only [Option.some.injEq, Obj.cells.injEq] at v1'
    obtain ⟨rfl, _, _⟩ := v1'
    exact hne (g2.inj b' m _ _ cb N Nm hb t5 hi im)
  have Z : Zw tb to fbw fo mb mo nf rb 0 capc f pgw ck ces w :=
    ⟨⟨kk, q1, q3, q5, q9, q11⟩, q7, w1, hmne, apart t1 it c1, apart t3 ifb c2, apart p5 ib c3, hrb⟩
  have hck : ∀ w : World, (Instr.checkKey ces.isEmpty 10000 3 (.int .i64 (f : Int))).run Tryz.prog w = .ok () w :=
    fun w => keyV_sound (tiOf_ok Tryz.prog) (ι := ι) 12 3 (.sc (.i .i64 (.ofNat f))) (.int .i64 (f : Int)) 10000 ces.isEmpty w rfl c8 (by omega)
  have hfind : ∀ w : World, ∃ j, (Instr.findKey 3 (.int .i64 (f : Int)) ces.toList).run Tryz.prog w = .ok (some (j, .slice (some ⟨rb, 0, none⟩) 4096 capc)) w := by
    intro w
    obtain ⟨r', f1, f2⟩ := find_sound (tiOf_ok Tryz.prog) und3 (kv := .sc (.i .i64 (.ofNat f))) (K := .int .i64 (f : Int)) (ι := ι) rfl w2 p2 (w := w)
    cases r' with
    | none => exact f2.elim
    | some q =>
      obtain ⟨j', vv⟩ := q
      obtain ⟨_, _, c, k1, k2⟩ := f2
      simp only [Nat.sub_zero] at k1
      rw [y1] at k1
      simp only [Option.some.injEq] at k1
      subst k1 k2
      rw [y5] at f1
      exact ⟨j', f1⟩
  refine rounds_zero (V3 := V3) (V4 := V4) (ds := a.defers) c4 c5 c6 hck hfind d i a w ⟨hsz, rfl, a0, a1, a2, a3, a4, a17⟩ Z c7 (fun x h1 h2 => ?_) (fun a' w' E o => ?_)
  · obtain ⟨_, v1, v2⟩ := cellA g2 p5 ib (isZ0_get cz (x := x) h1 h2)
    rw [Nat.zero_add, v1]
    exact congrArg some v2
  · refine EndsR.go (h1 := h.put m (.cells ⟨rm.n, rm.d, rm.t.put (some (.un .i64)) (Nat.add mo 2)⟩ false)) hg g3 ⟨ι, ⟨?_, ?_⟩, E.ds, opsW_post g2 t5 im o⟩ k
    · rw [E.sz]; exact hn.symm
    · intro t' v ht
      simp only [frZ, Tr.get_put] at ht
      by_cases e17 : t' = 17
      · rw [if_pos e17] at ht
        subst e17
        simp only [Option.some.injEq] at ht
        subst ht
        exact ⟨_, E.t17, rfl⟩
      · rw [if_neg e17] at ht
        have hmem := pick_mem ht
        have hget := pick_get ht
        obtain ⟨V, v1, v2⟩ := g1.2 t' v hget
        refine ⟨V, ?_, v2⟩
        simp only [List.mem_cons, List.not_mem_nil, or_false] at hmem
        rcases hmem with rfl | rfl | rfl | rfl | rfl
        · rw [E.t0, ← a0]; exact v1
        · rw [E.t1, ← a1]; exact v1
        · rw [E.t2, ← a2]; exact v1
        · rw [E.t3, ← a3]; exact v1
        · rw [E.t4, ← a4]; exact v1
end Go.Proofs.YtmjogmpgamlhaaaGreat

set_option maxRecDepth 100000
namespace Go.Proofs.YtmjogmpgamlhaaaGreat.Dm
open Go Go.RowKit
theorem EndsR.goes {P : Program} {r : Res} (hg : r.good = true) {s s1 : List It} {fr fr1 : Fr} {h h1 : Heap} (g : Goes P s fr h s1 fr1 h1) (k : EndsR P r s1 fr1 h1) : EndsR P r s fr h := by
  have hn := g.1
  have hk := k.1
  refine ⟨by rw [next_eq hg h.next h1.next]; omega, fun ι a w g1 g2 g3 => ?_⟩
  rw [next_eq hg h.next h1.next] at g3
  exact g.2 _ ι a w g1 g2 (g3.mono hk) (fun a' w' q => EndsR.go hg g3 q k)
theorem EndsR.goesC {P : Program} {r : Res} (hg : r.good = true) {c : Code} {st : List It} {fr fr1 : Fr} {h h1 : Heap} (g : Goes P [.code c] fr h [] fr1 h1) (k : EndsR P r st fr1 h1) : EndsR P r (.code c :: st) fr h := by
  have hn := g.1
  have hk := k.1
  refine ⟨by rw [next_eq hg h.next h1.next]; omega, fun ι a w g1 g2 g3 => ?_⟩
  rw [next_eq hg h.next h1.next] at g3
  exact Goes.wp g g1 g2 (g3.mono hk) (fun a' w' q => EndsR.go hg g3 q k)

/-- A run to where nothing is left to do. -/
noncomputable def cekE (kk : K) : Nat → List It → Fr → Heap → Option (Fr × Heap)
  | 0, _, _, _ => none
  | n + 1, s, fr, h => match s with
    | [] => some (fr, h)
    | _ => match cek1 kk s fr h with
      | .st s1 fr1 h1 => cekE kk n s1 fr1 h1
      | .bad _ => none
theorem cekE_goes {P : Program} {kk : K} (hk : KOk P kk) : ∀ {n : Nat} {s : List It} {fr fr1 : Fr} {h h1 : Heap}, cekE kk n s fr h = some (fr1, h1) → Goes P s fr h [] fr1 h1
  | 0, _, _, _, _, _, hr => by cases hr
  | n + 1, s, fr, fr1, h, h1, hr => by
    unfold cekE at hr
    split at hr
    · simp only [Option.some.injEq, Prod.mk.injEq] at hr
      obtain ⟨rfl, rfl⟩ := hr
      exact Goes.refl
    · split at hr
      · rename_i he
        exact (cek1_goes hk he).trans (cekE_goes hk hr)
      · cases hr
end Go.Proofs.YtmjogmpgamlhaaaGreat.Dm

namespace Go.Proofs.YtmjogmpgamlhaaaGreat
open Go Go.RowKit Go.Lib Go.Proofs.YtmjogmpgamlhaaaGreat.Dm

noncomputable def nzFrom (i : Nat) : List Nat → Nat
  | [] => 512
  | k :: l => cnd (Nat.ble i (Nat.div k 8) && Nat.blt (Nat.div k 8) (nzFrom i l)) (Nat.div k 8) (nzFrom i l)
noncomputable def nxtA (h : Heap) (fr : Fr) (i : Nat) : Nat := match tab1 fr with
  | some (t, to, tab, lv) => match tab2 h t to with
    | some (fb, fo, m, mo, rm) => match tabM rm mo with
      | some (nf, pg) => match tab3 h pg (Nat.div tab 4096) with
        | some (b, r) => nzFrom i (trKeys r.t 0 1 [])
        | none => i
      | none => i
    | none => i
  | none => i

noncomputable def at17 (fr : Fr) (i : Nat) : Bool := Nat.beq fr.n 67 && (match fr.t.get 17 with
  | some (.cv (.sc (.i .i64 (.ofNat j)))) => Nat.beq j i
  | _ => false)
theorem at17_eq {fr : Fr} {i : Nat} (h : at17 fr i = true) : fr.n = 67 ∧ fr.t.get 17 = some (.cv (.sc (.i .i64 (.ofNat i)))) := by
  unfold at17 at h
  simp only [Bool.and_eq_true] at h
  refine ⟨Nat.eq_of_beq_eq_true h.1, ?_⟩
  have h2 := h.2
  split at h2
  · rename_i j hj
    rw [hj, Nat.eq_of_beq_eq_true h2]
  · cases h2

noncomputable def eachL (kk : K) : Nat → Nat → Fr → Heap → Option (Fr × Heap)
  | 0, _, _, _ => none
  | n + 1, i, fr, h => cnd (Nat.beq i 512) (cekE kk 20 [.rep eachB 1, .blk 0] fr h)
    (cnd (Nat.blt i (nxtA h fr i)) (match skipA h fr i (nxtA h fr i) with
      | some h' => eachL kk n (nxtA h fr i) (frZ fr (nxtA h fr i)) h'
      | none => none)
      (match cekE kk 60 [.code eachB] fr h with
      | some (fr1, h1) => cnd (at17 fr1 (Nat.succ i)) (eachL kk n (Nat.succ i) fr1 h1) none
      | none => none))

theorem skip_le {h h' : Heap} {fr : Fr} {i j : Nat} (hs : skipA h fr i j = some h') : j ≤ 512 := by
  unfold skipA at hs
  split at hs
  case h_2 => cases hs
  rename_i t to tab lv e1
  cases htab : Nat.beq (Nat.mod tab 4096) 0 with
  | false => rw [htab] at hs; cases hs
  | true =>
  rw [htab] at hs; simp only [cnd_true] at hs
  split at hs
  case h_2 => cases hs
  split at hs
  case h_2 => cases hs
  split at hs
  case h_2 => cases hs
  rename_i fb fo m mo rm e2 _ nf pg e3 _ b rr e4
  cases hcd : (condA t fb m b lv (Nat.div tab 4096) nf j && isZ0 rr (Nat.mul 8 i) (Nat.mul 8 j)) with
  | false => rw [hcd] at hs; cases hs
  | true =>
  simp only [condA, Bool.and_eq_true] at hcd
  exact Nat.le_of_ble_eq_true hcd.1.2.2.2.2.2.2.1

theorem eachL_ends {kk : K} (hk : KOk Tryz.prog kk) : ∀ {n i : Nat} {fr frT : Fr} {h hT : Heap}, eachL kk n i fr h = some (frT, hT) → i ≤ 512 → fr.n = 67 → fr.t.get 17 = some (.cv (.sc (.i .i64 (.ofNat i)))) →
    EndsR Tryz.prog (.nrm frT hT) [.rep eachB (513 - i), .blk 0] fr h
  | 0, _, _, _, _, _, hr, _, _, _ => by cases hr
  | n + 1, i, fr, frT, h, hT, hr, hi, hn, h17 => by
    unfold eachL at hr
    cases hb : Nat.beq i 512 with
    | true =>
      rw [hb] at hr; simp only [cnd_true] at hr
      obtain rfl := Nat.eq_of_beq_eq_true hb
      exact EndsR.goes rfl (cekE_goes hk hr) EndsR.done
    | false =>
      rw [hb] at hr; simp only [cnd_false] at hr
      have hne : i ≠ 512 := Nat.ne_of_beq_eq_false hb
      generalize nxtA h fr i = j at hr
      cases hj : Nat.blt i j with
      | true =>
        rw [hj] at hr; simp only [cnd_true] at hr
        have hj : i < j := Nat.le_of_ble_eq_true hj
        split at hr
        case h_2 => cases hr
        rename_i h' hs
        have hle := skip_le hs
        obtain ⟨d, rfl⟩ : ∃ d, j = i + d := ⟨j - i, by omega⟩
        have e : 513 - i = (513 - (i + d)) + d := by omega
        rw [e]
        refine skip_endsR rfl hn h17 hs (eachL_ends hk hr hle hn ?_)
        simp only [frZ, Tr.get_put, if_true]
      | false =>
        rw [hj] at hr; simp only [cnd_false] at hr
        split at hr
        case h_2 => cases hr
        rename_i fr1 h1 hc
        cases ha : at17 fr1 (Nat.succ i) with
        | false => rw [ha] at hr; cases hr
        | true =>
          rw [ha] at hr; simp only [cnd_true] at hr
          obtain ⟨k1, k2⟩ := at17_eq ha
          have e : 513 - i = (513 - Nat.succ i) + 1 := by omega
          rw [e]
          exact EndsR.rep (EndsR.goesC rfl (cekE_goes hk hc) (eachL_ends hk hr (by omega) k1 k2))

noncomputable def eachR0 : Code := sub eachF [0]
theorem eachF_shape : eachF = .seq eachR0 (.block 0 (.loop eachB)) := by kernel_rfl
theorem enters336 : Dm.Enters Tryz.prog 336 := ⟨Tryz.f336, Tryz.func336, by kernel_rfl, by kernel_rfl⟩
theorem ntmps336 : Tryz.f336.ntmps = 67 := by kernel_rfl
theorem results336 : Tryz.f336.results.toList = [] := by kernel_rfl

noncomputable def eachA (kk : K) (args : List AV) (h : Heap) : Option Heap := cnd (Nat.ble args.length 67) (match kk eachR0 ⟨67, argsIn 0 args .e⟩ h with
  | .nrm fr h1 => cnd (at17 fr 0) (match eachL kk 100 0 fr h1 with
    | some x => some x.2
    | none => none) none
  | _ => none) none
noncomputable def ovEach (kk : K) (call : CallK) : CallK := fun f args h => cnd (Nat.beq f 336)
  (match eachA kk args h with
  | some h' => .ok (.tu []) h'
  | none => call f args h) (call f args h)

theorem ovEach_ok {kk : K} (hk : KOk Tryz.prog kk) : OvOk Tryz.prog (ovEach kk) := by
  intro call hc f args h v h' hr
  unfold ovEach at hr
  cases hb : Nat.beq f 336 with
  | false => rw [hb] at hr; exact hc f args h v h' hr
  | true =>
    rw [hb] at hr; simp only [cnd_true] at hr
    split at hr
    case h_2 => exact hc f args h v h' hr
    rename_i hT hx
    simp only [CRes.ok.injEq] at hr
    obtain ⟨rfl, rfl⟩ := hr
    obtain rfl := Nat.eq_of_beq_eq_true hb
    unfold eachA at hx
    cases hlen : Nat.ble args.length 67 with
    | false => rw [hlen] at hx; cases hx
    | true =>
    rw [hlen] at hx; simp only [cnd_true] at hx
    have hlen := Nat.le_of_ble_eq_true hlen
    split at hx
    case h_2 => cases hx
    rename_i fr h1 hr0
    cases ha : at17 fr 0 with
    | false => rw [ha] at hx; cases hx
    | true =>
    rw [ha] at hx; simp only [cnd_true] at hx
    obtain ⟨k1, k2⟩ := at17_eq ha
    split at hx
    case h_2 => cases hx
    rename_i x hl
    simp only [Option.some.injEq] at hx
    subst hx
    have hends : EndsR Tryz.prog (.nrm x.1 x.2) [.code eachF] ⟨67, argsIn 0 args .e⟩ h := by
      rw [eachF_shape]
      exact EndsR.seq (EndsR.step rfl (Runs.of hk hr0 rfl) (EndsR.block (EndsR.loop 513 (eachL_ends hk hl (by omega) k1 k2))))
    refine knownH_of enters336 Tryz.func336 eachF_eq (by rw [ntmps336]; exact hlen) (frT := x.1) (.inr (by rw [ntmps336]; exact hends)) ?_
    unfold fnDone
    rw [results336]
    rfl
end Go.Proofs.YtmjogmpgamlhaaaGreat

namespace Go.Proofs.YtmjogmpgamlhaaaGreat
open Go Go.RowKit Go.Lib Go.Proofs.YtmjogmpgamlhaaaGreat.Dm

theorem wpList_lookup_plain {P : Program} (w : World) {ops : Array Oper} {rest : List Oper} {o : Oper} {a : Act} {Q : Exit → Act → World → Prop}
    (hg : o.guard = none) (m x : Operand) (t : TypeId) (hop : o.op = Op.lookup t m x false) (k e : TypeId) (ht : P.underlying t = some (.map k e)) (b : Nat) (es : Array MapEntry) (clock : Nat)
    (hm : a.eval m = .map (some b)) (hb : w.heap[b]? = some (.map es clock)) (key : Value) (hx : a.eval x = key) (hck : (Instr.checkKey es.isEmpty 10000 k key).run P w = .ok () w) (j : Nat) (v : Value)
    (hf : (Instr.findKey k key es.toList).run P w = .ok (some (j, v)) w) (hK : wpList P ops Q rest (a.put o.dst v) w) :
    wpList P ops Q (o :: rest) a w := by
  refine wpList_plain hg fun K' hK' => ?_
  unfold Oper.wp
  have hund : (underlying t).run P w = .ok (.map k e) w := by
    simp [underlying, ht, run_program]
  simp [execOp, hop, hm, hx, Instr.lookup, hund, getObj, Sem.run, hb, hck, hf, Result.andThen]
  exact hK' _ _ hK

set_option maxRecDepth 100000 in
set_option maxHeartbeats 2000000 in
theorem clear_calls {mb mo nf pg rb ro c f clock : Nat} {es : Array MapEntry} (w : World) (h0 : w.cell? ⟨mb, mo, none⟩ = some (.int .i64 (nf : Int))) (h1 : w.cell? ⟨mb, mo + 1, none⟩ = some (.map (some pg))) (hb : w.heap[pg]? = some (.map es clock))
    (hfn : f < nf)
    (hck : ∀ w : World, (Instr.checkKey es.isEmpty 10000 3 (.int .i64 (f : Int))).run Tryz.prog w = .ok () w)
    (hf : ∀ w : World, ∃ j, (Instr.findKey 3 (.int .i64 (f : Int)) es.toList).run Tryz.prog w = .ok (some (j, .slice (some ⟨rb, ro, none⟩) 4096 c)) w)
    (hz : ∀ x, x < 4096 → w.cell? ⟨rb, ro + x, none⟩ = some (.int .u8 0)) :
    Calls Tryz.prog 215 #[.pointer (some ⟨mb, mo, none⟩), .int .i64 (f : Int)] w fun e w2 => e = .returned (.bool true) ∧ Below w.heap.size w w2 := by
  have HC := hck w
  obtain ⟨j, HF⟩ := hf w
  have HZ : Aside (∀ x, x < 4096 → w.cell? ⟨rb, ro + x, none⟩ = some (.int .u8 0)) := hz
  have hlt : (f : Int) < (nf : Int) := by omega
  clear hck hf hz
  go_enter Tryz.func215, Tryz.ntmps215
  go_wp2_with (first
    | (at_lookup; refine wpList_lookup_plain _ rfl _ _ 149 rfl 3 152 Tryz.underlying149 pg es clock rfl hb _ rfl HC j _ HF ?_)
    | go_in)
  try go_frame
  clear HC HF h0 h1 hb hlt hfn
  go_loop [18] (fun v => ∃ i : Nat, i ≤ 4096 ∧ v = .int .i64 (i : Int)) (fun v => 4096 - (intOf v).toNat)
  case atStart => exact ⟨0, by omega, rfl⟩
  case round =>
    obtain ⟨i, hi, rfl⟩ := hrel
    by_cases hlt : i < 4096
    · have hc := HZ.out i hlt
      have hlt' : (i : Int) < 4096 := by omega
      go_wp2
      refine ⟨⟨i + 1, by omega, rfl⟩, ?_⟩
      show 4096 - ((i : Int) + 1).toNat < 4096 - (i : Int).toNat
      omega
    · have hlt' : ¬ (i : Int) < 4096 := by omega
      go_wp2
      go_ret
      exact ⟨rfl, Below.refl _ _⟩
end Go.Proofs.YtmjogmpgamlhaaaGreat

set_option maxRecDepth 100000
namespace Go.Proofs.YtmjogmpgamlhaaaGreat
open Go Go.RowKit Go.Lib Go.Proofs.YtmjogmpgamlhaaaGreat.Dm

theorem und3c : Tryz.prog.underlying 3 = some (.int .i64) := by kernel_rfl

/-- Is the frame there, and all noughts? -/
noncomputable def clrA (args : List AV) (h : Heap) : Bool := match args with
  | [.cv (.sc (.p m mo)), .cv (.sc (.i .i64 (.ofNat f)))] => match h.get m with
    | some (.cells rm _) => match rm.get mo, rm.get (Nat.add mo 1) with
      | some (.i .i64 (.ofNat nf)), some (.m pg) => match tab3 h pg f with
        | some (b, r) => Nat.blt f nf && (keyV (tiOf Tryz.prog) 12 3 (.sc (.i .i64 (.ofNat f))) && zRow r)
        | none => false
      | _, _ => false
    | _ => false
  | _ => false
noncomputable def ovClear (call : CallK) : CallK := fun f args h => cnd (Nat.beq f 215) (cnd (clrA args h) (.ok (.cv (.sc (.b true))) h) (call f args h)) (call f args h)
theorem enters215 : Dm.Enters Tryz.prog 215 := ⟨Tryz.f215, Tryz.func215, by kernel_rfl, by kernel_rfl⟩

theorem ovClear_ok : OvOk Tryz.prog ovClear := by
  intro call hc f args h v h' hr
  unfold ovClear at hr
  cases hb : Nat.beq f 215 with
  | false => rw [hb] at hr; exact hc f args h v h' hr
  | true =>
    rw [hb] at hr; simp only [cnd_true] at hr
    cases ha : clrA args h with
    | false => rw [ha] at hr; exact hc f args h v h' hr
    | true =>
    rw [ha] at hr; simp only [cnd_true, CRes.ok.injEq] at hr
    obtain ⟨rfl, rfl⟩ := hr
    obtain rfl := Nat.eq_of_beq_eq_true hb
    unfold clrA at ha
    split at ha
    case h_2 => cases ha
    rename_i m mo f
    split at ha
    case h_2 => cases ha
    rename_i rm r0 hm
    split at ha
    case h_2 => cases ha
    rename_i nf pg m1 m2
    split at ha
    case h_2 => cases ha
    rename_i b r e4
    simp only [Bool.and_eq_true] at ha
    obtain ⟨c5, c8, cz⟩ := ha
    have c5 : f < nf := Nat.le_of_ble_eq_true c5
    obtain ⟨es, ck, x, en, ro, p1, p2, p3, p4, p5⟩ := tab3_eq e4
    refine ⟨enters215, Nat.le_refl _, fun ι w aa rep has hf => ?_⟩
    obtain ⟨aa⟩ := aa
    obtain ⟨a1, a2, rfl⟩ : ∃ a1 a2, aa = [a1, a2] := by
      match aa, has with
      | [a1, a2], _ => exact ⟨a1, a2, rfl⟩
      | [], h => exact h.elim
      | [_], h => exact h.2.elim
      | _ :: _ :: _ :: _, h => exact h.2.2.elim
    obtain ⟨h1, h2, -⟩ := has
    obtain ⟨mb, Nm, im, rfl⟩ := (show VR ι (.p m mo) a1 from h1)
    obtain rfl : a2 = .int .i64 (f : Int) := h2
    obtain ⟨_, q5, q6⟩ := cellA rep hm im m1
    have q6 : _ = Value.int .i64 (nf : Int) := q6
    subst q6
    obtain ⟨_, q7, pgw, Npg, ipg, rfl⟩ := cellA rep hm im m2
    obtain ⟨pgw', Npg', g0, ces, w1, w2⟩ := rep.obj pg _ p1
    rw [ipg] at g0; simp only [Option.some.injEq, Prod.mk.injEq] at g0
    obtain ⟨rfl, rfl⟩ := g0
    obtain ⟨en', y1, y2, y3, y4⟩ := w2.get p3
    rw [p4] at y3
    obtain ⟨rb, Nb, o', capc, ib, y5, y6, y7, y8⟩ : VR ι (.sl b 0 4096 4096 1 false) en'.val := y3
    obtain ⟨z1, z2, z3, z4⟩ := y8 rfl
    have z2 : o' = 0 := by rcases z2 with h | h; exact absurd h (by decide); exact h
    subst z2
    have hck : ∀ w : World, (Instr.checkKey ces.isEmpty 10000 3 (.int .i64 (f : Int))).run Tryz.prog w = .ok () w :=
      fun w => keyV_sound (tiOf_ok Tryz.prog) (ι := ι) 12 3 (.sc (.i .i64 (.ofNat f))) (.int .i64 (f : Int)) 10000 ces.isEmpty w rfl c8 (by omega)
    have hfind : ∀ w : World, ∃ j, (Instr.findKey 3 (.int .i64 (f : Int)) ces.toList).run Tryz.prog w = .ok (some (j, .slice (some ⟨rb, 0, none⟩) 4096 capc)) w := by
      intro w
      obtain ⟨r', f1, f2⟩ := find_sound (tiOf_ok Tryz.prog) und3c (kv := .sc (.i .i64 (.ofNat f))) (K := .int .i64 (f : Int)) (ι := ι) rfl w2 p2 (w := w)
      cases r' with
      | none => exact f2.elim
      | some q =>
        obtain ⟨j', vv⟩ := q
        obtain ⟨_, _, c, k1, k2⟩ := f2
        simp only [Nat.sub_zero] at k1
        rw [y1] at k1
        simp only [Option.some.injEq] at k1
        subst k1 k2
        rw [y5] at f1
        exact ⟨j', f1⟩
    refine (clear_calls w q5 q7 w1 c5 hck hfind (fun x hx => ?_)).mono ?_
    · obtain ⟨_, v1, v2⟩ := cellA rep p5 ib ((zRow_get cz).2.2 x hx)
      rw [Nat.zero_add, v1]
      exact congrArg some v2
    · rintro e w' ⟨rfl, hB⟩
      exact ⟨.bool true, ι, rfl, rfl, post_below rep hB⟩
end Go.Proofs.YtmjogmpgamlhaaaGreat
