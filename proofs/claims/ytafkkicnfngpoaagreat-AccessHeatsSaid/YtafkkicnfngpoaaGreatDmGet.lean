/- bits.Get by its contract: the override, whatever the program. -/
import Derived.Test.YtafkkicnfngpoaaGreatDmSeat
set_option linter.unusedVariables false
set_option linter.unusedSimpArgs false
set_option linter.unusedSectionVars false
namespace Go.Proofs.YtafkkicnfngpoaaGreat.Dm
open Go Go.RowKit

noncomputable def leNat : List Nat → Nat
  | [] => 0
  | a :: l => Nat.add a (Nat.mul 256 (leNat l))

noncomputable def szOk (s : Nat) : Bool := Nat.beq s 8 || Nat.beq s 4 || Nat.beq s 1 || Nat.beq s 2

noncomputable def getA (args : List AV) (h : Heap) : Option AV :=
  match args with
  | [.cv (.sc (.sl b o n cap z ex)), .cv (.sc (.i .i64 (.ofNat at_))), .cv (.sc (.i .i64 (.ofNat s)))] =>
    cnd (Nat.beq z 1 && szOk s && Nat.beq (Nat.mod at_ s) 0 && Nat.ble (Nat.add at_ s) n && Nat.ble n 1000000)
      (match h.get b with
      | some (.cells r _) => match bytesOf r (Nat.add o at_) s with
        | some l => some (.tu [.sc (.i .u64 (.ofNat (leNat l))), .sc (.i .i64 0)])
        | none => none
      | _ => none) none
  | _ => none

noncomputable def ovGet (g : FuncId) (call : CallK) : CallK := fun f args h => cnd (Nat.beq f g)
  (match getA args h with
  | some v => .ok v h
  | none => call f args h) (call f args h)

theorem bytesOf_at (r : Row) : ∀ (k o : Nat) (l : List Nat), bytesOf r o k = some l → l.length = k ∧ ∀ (i a : Nat), l[i]? = some a → a < 256 ∧ r.get (o + i) = some (.i .u8 (.ofNat a))
  | 0, o, l, h => by
    simp only [bytesOf, Option.some.injEq] at h
    subst h
    exact ⟨rfl, fun i a h => by simp at h⟩
  | k + 1, o, l, h => by
    unfold bytesOf at h
    split at h
    · rename_i a ha
      split at h
      · rename_i l' hl'
        cases hb : Nat.blt a 256 with
        | false => rw [hb] at h; cases h
        | true =>
          rw [hb] at h; simp only [cnd_true, Option.some.injEq] at h
          subst h
          obtain ⟨i1, i2⟩ := bytesOf_at r k (Nat.succ o) l' hl'
          refine ⟨by simp [i1], fun i c hc => ?_⟩
          cases i with
          | zero =>
            simp at hc
            subst hc
            exact ⟨Nat.le_of_ble_eq_true hb, ha⟩
          | succ i =>
            have := i2 i c (by simpa using hc)
            rw [show Nat.succ o + i = o + (i + 1) by omega] at this
            exact this
      · cases h
    · cases h

/-- What the contract of bits.Get says. -/
def GetOk (P : Program) (g : FuncId) : Prop := Enters P g ∧ ∀ {cb o n c at_ s : Nat} {l : List Nat}, (s = 1 ∨ s = 2 ∨ s = 4 ∨ s = 8) → at_ % s = 0 → at_ + s ≤ n → n ≤ 1000000 → ∀ (w : World), l.length = s → (∀ a ∈ l, a < 256) →
  (∀ (j a : Nat), l[j]? = some a → w.cell? ⟨cb, o + (at_ + j), none⟩ = some (.int .u8 (a : Int))) →
  Calls P g #[.slice (some ⟨cb, o, none⟩) n c, .int .i64 (at_ : Int), .int .i64 (s : Int)] w fun e w' => e = .returned (.tuple #[.int .u64 (leNat l : Nat), .int .i64 0]) ∧ Below w.heap.size w w'

theorem ovGet_ok {P : Program} {g : FuncId} (hG : GetOk P g) : OvOk P (ovGet g) := by
  intro call hc f args h v h' hr
  unfold ovGet at hr
  cases hb : Nat.beq f g with
  | false => rw [hb] at hr; exact hc f args h v h' hr
  | true =>
    rw [hb] at hr; simp only [cnd_true] at hr
    split at hr
    · rename_i u hu
      obtain rfl := Nat.eq_of_beq_eq_true hb
      simp only [CRes.ok.injEq] at hr
      obtain ⟨rfl, rfl⟩ := hr
      unfold getA at hu
      split at hu
      · rename_i b o n cap z ex at_ s
        cases hcd : (Nat.beq z 1 && szOk s && Nat.beq (Nat.mod at_ s) 0 && Nat.ble (Nat.add at_ s) n && Nat.ble n 1000000) with
        | false => rw [hcd] at hu; cases hu
        | true =>
          rw [hcd] at hu; simp only [cnd_true] at hu
          simp only [Bool.and_eq_true] at hcd
          obtain ⟨⟨⟨⟨c1, c2⟩, c3⟩, c4⟩, c5⟩ := hcd
          obtain rfl := Nat.eq_of_beq_eq_true c1
          have hs : s = 1 ∨ s = 2 ∨ s = 4 ∨ s = 8 := by
            unfold szOk at c2
            simp only [Bool.or_eq_true] at c2
            rcases c2 with ((c2 | c2) | c2) | c2 <;> have := Nat.eq_of_beq_eq_true c2 <;> omega
          have hmd : at_ % s = 0 := Nat.eq_of_beq_eq_true c3
          have hn : at_ + s ≤ n := Nat.le_of_ble_eq_true c4
          have hn6 : n ≤ 1000000 := Nat.le_of_ble_eq_true c5
          split at hu
          · rename_i r ro hgb
            split at hu
            · rename_i l hl
              simp only [Option.some.injEq] at hu
              subst hu
              refine ⟨hG.1, Nat.le_refl _, fun ι w as rep has hf => ?_⟩
              obtain ⟨as⟩ := as
              obtain ⟨a1, a2, a3, rfl⟩ : ∃ a1 a2 a3, as = [a1, a2, a3] := by
                match as, has with
                | [a1, a2, a3], _ => exact ⟨a1, a2, a3, rfl⟩
                | [], h => exact h.elim
                | [_], h => exact h.2.elim
                | [_, _], h => exact h.2.2.elim
                | _ :: _ :: _ :: _ :: _, h => exact h.2.2.2.elim
              obtain ⟨h1, h2, h3, -⟩ := has
              obtain ⟨cb, N, o', capc, e1, rfl, k0, k1, k2⟩ := (show VR ι (.sl b o n cap 1 ex) a1 from h1)
              obtain rfl : a2 = .int .i64 (at_ : Int) := h2
              obtain rfl : a3 = .int .i64 (s : Int) := h3
              obtain rfl : o' = o := by
                cases ex with
                | true => exact (k1 rfl).1
                | false => exact ((k2 rfl).2.1).resolve_left (by omega)
              obtain ⟨cb', N', g1, cs, el, fr, g2, g3, g4, g5, g6⟩ := rep.obj b _ hgb
              rw [e1] at g1
              simp only [Option.some.injEq, Prod.mk.injEq] at g1
              obtain ⟨rfl, rfl⟩ := g1
              obtain ⟨l1, l2⟩ := bytesOf_at r s (Nat.add o' at_) l hl
              refine (hG.2 (l := l) hs hmd hn hn6 w l1 (fun a ha => by obtain ⟨j, hj⟩ := List.getElem?_of_mem ha; exact (l2 j a hj).1) (fun j a hj => by
                obtain ⟨V, v1, v2⟩ := g5 _ _ (l2 j a hj).2
                obtain rfl : V = .int .u8 (a : Int) := v2
                rw [show o' + (at_ + j) = Nat.add o' at_ + j from (Nat.add_assoc o' at_ j).symm]
                simp only [World.cell?, g2]
                simpa using v1)).mono ?_
              rintro e w' ⟨rfl, hb⟩
              exact ⟨_, ι, rfl, ⟨_, rfl, rfl, rfl, trivial⟩, post_below rep hb⟩
            · cases hu
          · cases hu
      · cases hu
    · exact hc f args h v h' hr
end Go.Proofs.YtafkkicnfngpoaaGreat.Dm
