/- The two appends as steps of a walk. -/
import Derived.Test.YtdlnipimljpmgaaIR5
import Derived.Deep.AppendLies
import Derived.Deep.RegionLaw
import Derived.Deep.RegionLawGrows
set_option linter.unusedVariables false
set_option linter.unusedSimpArgs false
set_option linter.unusedSectionVars false
set_option linter.unnecessarySimpa false
namespace Go.Proofs.Ytdlnipimljpmgaa
open Go Go.RowKit Go.Im Go.Lib

theorem MRow.form {w : World} {base : Nat} {e : TypeId} {v : Value} {n : Nat} {xs : List Value} (h : MRow w base e v n xs) : ∃ g c, v = .slice (some ⟨g, 0, none⟩) n c := by
  obtain ⟨_, g, cap, _, _, rfl, _⟩ := h
  exact ⟨g, cap, rfl⟩

theorem MRow.own {w : World} {base : Nat} {e : TypeId} {a : Option Addr} {m c n : Nat} {xs : List Value} (h : MRow w base e (.slice a m c) n xs) : (Value.slice a m c).ownBlock = some ((a.getD ⟨0, 0, none⟩).block) := by
  obtain ⟨_, g, cap, _, _, he, _⟩ := h
  cases he
  rfl

theorem step_append_strM {P : Program} {ops : Array Oper} {o : Oper} {a : Act} {w : World} {K : Act → World → Prop} {Q : Exit → Act → World → Prop} {E : Prop}
    (hg : o.guard = none) (s x : Operand) (t u : TypeId) (hop : o.op = Op.call { callee := Callee.builtin Builtin.append, args := #[s, x], argTypes := #[t, u] })
    (e : TypeId) (i : TypeInfo) (ht : P.underlying t = some (.slice e)) (hu : P.underlying u = some .string) (hi : P.info? e = some i) (hz : i.zero = some (.int .u8 0)) (hs1 : i.size = 1) (hby : i.bytes = 1)
    (base : Nat) (v : Value) (n : Nat) (xs : List Value) (hs : a.eval s = v) (hM : MRow w base e v n xs) (st : ByteArray) (hx : a.eval x = .string st) (N : Nat) (hN : n + st.size = N)
    (h63 : N ≤ maxLen) (hbytes : N ≤ 140737488355328) (hbase : base ≤ w.heap.size)
    (hK : ∀ g c w', MRow w' base e (.slice (some ⟨g, 0, none⟩) N c) N (xs ++ strCells st) → w.grownBy w' v.ownBlock → K (a.put o.dst (.slice (some ⟨g, 0, none⟩) N c)) w') :
    if Region.wanted o (yielded ops a.tmps) = true then Oper.wp P o a w K Q else E := by
  have hw : Region.wanted o (yielded ops a.tmps) = true := by simp [Region.wanted, hg]
  rw [if_pos hw]
  subst hN
  obtain ⟨v', w', hrun, r1, r2⟩ := append_strM (P := P) t u o.type i ht hu hi hz hs1 hby hM st h63 hbytes hbase
  obtain ⟨g, c, rfl⟩ := r1.form
  unfold Oper.wp
  simp [execOp, hop, resolve, invoke, builtin, hs, hx, hrun, Result.andThen]
  exact hK g c w' r1 r2

theorem wpList_append_sliceM {P : Program} {ops : Array Oper} {rest : List Oper} {o : Oper} {a : Act} {w : World} {Q : Exit → Act → World → Prop} (hgd : o.guard = none) (s x : Operand) (t : TypeId)
    (hop : o.op = .call { callee := .builtin .append, args := #[s, x], argTypes := #[t, t] })
    (e : TypeId) (i : TypeInfo) (z : Value) (ht : P.underlying t = some (.slice e)) (hi : P.info? e = some i) (hz : i.zero = some z) (hs1 : i.size = 1) (hby : i.bytes = 1) (hzs : z.cells.size = 1)
    (base : Nat) (v : Value) (n : Nat) (xs : List Value) (hs : a.eval s = v) (hM : MRow w base e v n xs)
    (ad : Addr) (m c : Nat) (news : List Value) (hx : a.eval x = .slice (some ad) m c) (hl : news.length = m) (hnews : ∀ j u, news[j]? = some u → w.cell? (ad.add j) = some u) (ho : ∀ u ∈ news, u.oneCell' = true)
    (h63 : n + m ≤ maxLen) (hbytes : n + m ≤ 140737488355328) (hbase : base ≤ w.heap.size)
    (h : ∀ g c w', MRow w' base e (.slice (some ⟨g, 0, none⟩) (n + m) c) (n + m) (xs ++ news) → w.grownBy w' v.ownBlock → wpList P ops Q rest (a.put o.dst (.slice (some ⟨g, 0, none⟩) (n + m) c)) w') : wpList P ops Q (o :: rest) a w := by
  refine wpList_plain hgd fun K hK => ?_
  obtain ⟨v', w', hrun, r1, r2⟩ := append_sliceM (P := P) t o.type i z ht hi hz hs1 hby hzs hM ad m c news hl hnews ho h63 hbytes hbase
  obtain ⟨g, c', rfl⟩ := r1.form
  unfold Oper.wp
  simp [execOp, hop, resolve, invoke, builtin, hs, hx, hrun, Result.andThen]
  exact hK _ _ (h g c' w' r1 r2)
end Go.Proofs.Ytdlnipimljpmgaa
