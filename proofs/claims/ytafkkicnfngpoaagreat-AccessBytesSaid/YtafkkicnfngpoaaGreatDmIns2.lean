/- slices.Insert of one whole number: the override. -/
import Derived.Test.YtafkkicnfngpoaaGreatDmIns
set_option linter.unusedVariables false
set_option linter.unusedSimpArgs false
set_option linter.unusedSectionVars false
namespace Go.Proofs.YtafkkicnfngpoaaGreat.Dm
open Go Go.RowKit Go.Shelf Go.Proofs

noncomputable def insS (l : List SV) : Nat → SV → List SV
  | 0, x => x :: l
  | i + 1, x => match l with
    | [] => [x]
    | a :: r => a :: insS r i x

theorem insS_eq : ∀ (l : List SV) (i : Nat) (x : SV), i ≤ l.length → insS l i x = insL l i x
  | l, 0, x, _ => by simp [insS, insL]
  | [], i + 1, x, h => by simp at h
  | a :: r, i + 1, x, h => by
    have := insS_eq r i x (by simpa using h)
    simp only [insS, this]
    simp [insL]

noncomputable def insA (args : List AV) (h : Heap) : Option (AV × Heap) :=
  match args with
  | [.cv (.sc (.sl b o n cap z ex)), .cv (.sc (.i .i64 (.ofNat i))), .cv (.sc (.sl vb vo 1 vc 1 vex))] =>
    cnd (Nat.beq o 0 && Nat.beq z 1 && Nat.blt 0 cap && Nat.ble i n && Nat.blt n 1000000 && !(Nat.beq vb b) && !ex)
      (match h.get b, h.get vb with
      | some (.cells r false), some (.cells vr false) => match r.read 0 n, vr.get vo with
        | some l, some x => some (.cv (.sc (.sl h.next 0 (Nat.succ n) (Nat.succ n) 1 false)), (h.kill b).push (.cells (Row.ofList (insS l i x)) false))
        | _, _ => none
      | _, _ => none) none
  | _ => none

noncomputable def ovIns (g : FuncId) (call : CallK) : CallK := fun f args h => cnd (Nat.beq f g)
  (match insA args h with
  | some (v, h') => .ok v h'
  | none => call f args h) (call f args h)

theorem Rs.of_get {ι : Io} : ∀ {l : List SV} {r : List Value}, l.length = r.length → (∀ (i : Nat) (x : SV), l[i]? = some x → ∃ v, r[i]? = some v ∧ VR ι x v) → Rs ι l r
  | [], [], _, _ => trivial
  | [], _ :: _, h, _ => by simp at h
  | _ :: _, [], h, _ => by simp at h
  | a :: l, v :: r, h, k => by
    obtain ⟨u, h1, h2⟩ := k 0 a rfl
    simp at h1
    subst h1
    exact ⟨h2, Rs.of_get (by simpa using h) fun i x hx => by
      obtain ⟨u, h1, h2⟩ := k (i + 1) x (by simpa using hx)
      exact ⟨u, by simpa using h1, h2⟩⟩

theorem Rs.ins {ι : Io} {l : List SV} {r : List Value} {x : SV} {v : Value} (i : Nat) (h : Rs ι l r) (hx : VR ι x v) : Rs ι (insL l i x) (insL r i v) :=
  (h.take i).append (show Rs ι (x :: l.drop i) (v :: r.drop i) from ⟨hx, h.drop i⟩)

theorem ovIns_ok {P : Program} {ρ : Ren} (L : Lays2.n21 P ρ) (hE : Enters P (ρ.f 21)) : OvOk P (ovIns (ρ.f 21)) := by
  intro call hc f args h v h' hr
  unfold ovIns at hr
  cases hb : Nat.beq f (ρ.f 21) with
  | false => rw [hb] at hr; exact hc f args h v h' hr
  | true =>
    rw [hb] at hr; simp only [cnd_true] at hr
    split at hr
    case h_2 => exact hc f args h v h' hr
    rename_i v0 h0 hr0
    simp only [CRes.ok.injEq] at hr
    obtain ⟨rfl, rfl⟩ := hr
    have hr := hr0
    clear hr0
    obtain rfl := Nat.eq_of_beq_eq_true hb
    clear hb hc
    unfold insA at hr
    split at hr
    · rename_i b o n cap z ex i vb vo vc vex
      cases hcd : (Nat.beq o 0 && Nat.beq z 1 && Nat.blt 0 cap && Nat.ble i n && Nat.blt n 1000000 && !(Nat.beq vb b) && !ex) with
      | false => rw [hcd] at hr; cases hr
      | true =>
        rw [hcd] at hr; simp only [cnd_true] at hr
        simp only [Bool.and_eq_true, Bool.not_eq_true'] at hcd
        obtain ⟨⟨⟨⟨⟨⟨c1, c2⟩, c3⟩, c4⟩, c5⟩, c6⟩, c7⟩ := hcd
        obtain rfl := Nat.eq_of_beq_eq_true c1
        obtain rfl := Nat.eq_of_beq_eq_true c2
        have hcap : 0 < cap := Nat.le_of_ble_eq_true c3
        have hin : i ≤ n := Nat.le_of_ble_eq_true c4
        have hn6 : n < 1000000 := Nat.le_of_ble_eq_true c5
        have hvb : vb ≠ b := Nat.ne_of_beq_eq_false c6
        subst c7
        split at hr
        · rename_i r vr hgb hgv
          split at hr
          · rename_i l x hrd hvx
            simp only [Option.some.injEq, Prod.mk.injEq] at hr
            obtain ⟨rfl, rfl⟩ := hr
            refine ⟨hE, Nat.le_succ _, fun ι w aa rep has hf => ?_⟩
            obtain ⟨aa⟩ := aa
            obtain ⟨a1, a2, a3, rfl⟩ : ∃ a1 a2 a3, aa = [a1, a2, a3] := by
              match aa, has with
              | [a1, a2, a3], _ => exact ⟨a1, a2, a3, rfl⟩
              | [], h => exact h.elim
              | [_], h => exact h.2.elim
              | [_, _], h => exact h.2.2.elim
              | _ :: _ :: _ :: _ :: _, h => exact h.2.2.2.elim
            obtain ⟨h1, h2, h3, -⟩ := has
            obtain ⟨cb, N, o', capc, e1, rfl, k0, -, k2⟩ := (show VR ι (.sl b 0 n cap 1 false) a1 from h1)
            obtain rfl : a2 = .int .i64 (i : Int) := h2
            obtain ⟨cv, Nv, vo', vcc, e3, rfl, j0, j1, j2⟩ := (show VR ι (.sl vb vo 1 vc 1 vex) a3 from h3)
            obtain ⟨q1, q2, q3, q4⟩ := k2 rfl
            obtain rfl : o' = 0 := q2.resolve_left (by omega)
            obtain rfl : vo' = vo := by
              cases vex with
              | true => exact (j1 rfl).1
              | false => exact ((j2 rfl).2.1).resolve_left (by omega)
            obtain ⟨cb', N', g1, cs, el, fr, g2, g3, g4, g5, g6⟩ := rep.obj b _ hgb
            rw [e1] at g1
            simp only [Option.some.injEq, Prod.mk.injEq] at g1
            obtain ⟨rfl, rfl⟩ := g1
            obtain ⟨cv', Nv', p1, va, vel, vfr, p2, p3, p4, p5, p6⟩ := rep.obj vb _ hgv
            rw [e3] at p1
            simp only [Option.some.injEq, Prod.mk.injEq] at p1
            obtain ⟨rfl, rfl⟩ := p1
            obtain ⟨r1, r2⟩ := Row.read_spec r n 0 l hrd
            obtain ⟨X, x1, x2⟩ := p5 vo' x hvx
            have hne : cv ≠ cb := by
              rintro rfl
              exact hvb (rep.inj vb b _ _ cv Nv N hgv hgb e3 e1)
            have hnN : n ≤ N := by omega
            have hRs : Rs ι l (cs.toList.take n) := by
              refine Rs.of_get (by simp; omega) fun j y hy => ?_
              have hj : j < n := by
                have := (List.getElem?_eq_some_iff.1 hy).1
                omega
              have := r2 j hj
              rw [Nat.zero_add, hy] at this
              obtain ⟨V, v1, v2⟩ := g5 j y this
              exact ⟨V, by rw [List.getElem?_take, if_pos hj, Array.getElem?_toList]; exact v1, v2⟩
            have hll : (cs.toList.take n).length = n := by simp; omega
            refine (insert_calls L (vc := vcc) (el := el) (fr := fr) (vel := vel) (vfr := vfr) w g2 g3 (g6 rfl) (by omega : 0 < capc) (by omega) (by omega) hn6 hll (fun j v hj => by
              rw [List.getElem?_take] at hj
              split at hj
              · rw [Array.getElem?_toList] at hj; exact hj
              · cases hj) hin p2 (p6 rfl) x1 hne hRs.one (VR.one x2) q4).mono ?_
            rintro e w' ⟨g, C, rfl, hp⟩
            obtain ⟨cs', el', fr', w1, w2, w3, w4, w5⟩ := hp.row
            have hi2 : Rs ι (insS l i x) (insL (cs.toList.take n) i X) := by rw [insS_eq l i x (by omega)]; exact hRs.ins i x2
            have hlen : (insS l i x).length = n + 1 := by
              rw [insS_eq l i x (by omega)]
              unfold insL
              simp
              omega
            have hsub : Sub ι (fun y => if y = h.next then some (g, cs'.size) else ι y) := by
              intro y p hy
              by_cases eb : y = h.next
              · subst eb; rw [hf h.next (Nat.le_refl _) (Nat.lt_succ_self _)] at hy; cases hy
              · simp only [if_neg eb]; exact hy
            have hOR : OR (fun y => if y = h.next then some (g, cs'.size) else ι y) (.cells (Row.ofList (insS l i x)) false) g cs'.size w' :=
              ⟨cs', el', fr', w1, rfl, by show (insS l i x).length ≤ _; have := hp.room; omega, fun j y hy => by
                rw [Row.get_ofList] at hy
                obtain ⟨V, v1, v2⟩ := (Rs.mono hsub hi2).get hy
                exact ⟨V, w5 j V v1, v2⟩, fun _ => w2⟩
            refine ⟨_, fun y => if y = h.next then some (g, cs'.size) else ι y, rfl, ⟨g, cs'.size, 0, C, by simp, rfl, Nat.le_refl _, fun hh => (by cases hh), fun _ => ⟨hp.room, .inr rfl, by omega, hp.most⟩⟩, ?_⟩
            rcases hp.way with ⟨rfl, z1, z2⟩ | ⟨rfl, z1, z2⟩
            · rw [w4 rfl] at hOR ⊢
              exact Post.move rep hf hgb e1 z2 z1 hp.tape hp.os hp.output hOR
            · have hk := Post.kill b rep
              have hnk : (h.kill b).next = h.next := rfl
              have hpush := Post.push (ι := ι) (w' := w') (h := h.kill b) (.cells (Row.ofList (insS l i x)) false) cs'.size hk.rep (by exact hf) z2 z1 hp.tape hp.os hp.output (by rw [hnk]; exact hOR)
              rw [hnk] at hpush
              exact hk.trans hpush
          · cases hr
        · cases hr
    · cases hr
end Go.Proofs.YtafkkicnfngpoaaGreat.Dm
