/- Maps that are changed. -/
import Derived.Test.YtafkkicnfngpoaaGreatDmSt
set_option linter.unusedVariables false
set_option linter.unusedSimpArgs false
set_option linter.unusedSectionVars false
namespace Go.Proofs.YtafkkicnfngpoaaGreat.Dm
open Go

theorem sbits_sound {ι : Io} {x y : SV} {V W : Value} (n : Nat) (hx : VR ι x V) (hy : VR ι y W) (h : sbits x y = true) : Instr.sameBits n V W = true := by
  cases x <;> cases y <;> simp only [sbits, Bool.false_eq_true] at h <;> simp only [VR] at hx hy
  case b.b => subst hx; subst hy; rw [beqB_eq] at h; cases n <;> simpa [Instr.sameBits] using h
  case i.i =>
    subst hx; subst hy
    rw [Bool.and_eq_true, keq_iff, ieq_eq] at h
    cases n <;> simp [Instr.sameBits, h.1] <;> simpa using h.2
  case c.c =>
    subst hx; subst hy
    rw [Bool.and_eq_true] at h
    have h1 := Nat.eq_of_beq_eq_true h.1; have h2 := Nat.eq_of_beq_eq_true h.2
    subst h1; subst h2
    cases n <;> simp [Instr.sameBits]
  case s.s =>
    obtain ⟨a, rfl, ha⟩ := hx; obtain ⟨b, rfl, hb⟩ := hy
    have := str_beq ha hb
    rw [h] at this
    cases n <;> simpa [Instr.sameBits] using this

theorem bitsAll_sound {ι : Io} (n : Nat) : ∀ {l r : List SV} {a b : List Value}, Rs ι l a → Rs ι r b → cbits.bitsAll l r = true →
    a.length = b.length ∧ ((a.zip b).all fun (x, y) => Instr.sameBits n x y) = true
  | [], [], [], [], _, _, _ => ⟨rfl, rfl⟩
  | [], [], _ :: _, _, h, _, _ => h.elim
  | [], [], [], _ :: _, _, h, _ => h.elim
  | [], _ :: _, _, _, _, _, h => by simp [cbits.bitsAll] at h
  | _ :: _, [], _, _, _, _, h => by simp [cbits.bitsAll] at h
  | _ :: _, _ :: _, [], _, h, _, _ => h.elim
  | _ :: _, _ :: _, _ :: _, [], _, h, _ => h.elim
  | x :: l, y :: r, v :: a, u :: b, ⟨h1, h2⟩, ⟨h3, h4⟩, h => by
    simp only [cbits.bitsAll, Bool.and_eq_true] at h
    obtain ⟨e1, e2⟩ := bitsAll_sound n h2 h4 h.2
    refine ⟨by simp [e1], ?_⟩
    simp only [List.zip_cons_cons, List.all_cons, Bool.and_eq_true]
    exact ⟨sbits_sound n h1 h3 h.1, e2⟩

theorem cbits_sound {ι : Io} {x y : CV} {V W : Value} (hx : CVR ι x V) (hy : CVR ι y W) (h : cbits x y = true) : Instr.sameBits 10000 V W = true := by
  cases x with
  | sc a => cases y with
    | sc b => exact sbits_sound 10000 hx hy h
    | ag r => simp [cbits] at h
  | ag l => cases y with
    | sc b => simp [cbits] at h
    | ag r =>
      obtain ⟨a, rfl, ha⟩ := hx; obtain ⟨b, rfl, hb⟩ := hy
      obtain ⟨e1, e2⟩ := bitsAll_sound 9999 ha hb h
      simp only [Array.length_toList] at e1
      show (a.size == b.size && (a.toList.zip b.toList).all fun (x, y) => Instr.sameBits 9999 x y) = true
      rw [Bool.and_eq_true]; exact ⟨beq_iff_eq.2 e1, e2⟩

theorem stays_run {ι : Io} {x y : CV} {V W : Value} (hx : CVR ι x V) (hy : CVR ι y W) (h : cbits x y = true) (P : Program) (w : World) : (Instr.keyThatStays V W).run P w = .ok W w := by
  simp [Instr.keyThatStays, cbits_sound hx hy h]

theorem MRs.setAt {ι : Io} {f : ME → ME} {g : MapEntry → MapEntry} (hfg : ∀ e c, MR ι e c → MR ι (f e) (g c)) : ∀ {l : List ME} {r : List MapEntry} (i : Nat), MRs ι l r → MRs ι (setAt l i f) (r.modify i g)
  | [], [], i, _ => by cases i <;> simp [Dm.setAt, MRs, List.modify_nil]
  | [], _ :: _, _, h => h.elim
  | _ :: _, [], _, h => h.elim
  | x :: l, v :: r, 0, ⟨a, b⟩ => by simpa [Dm.setAt, MRs] using ⟨hfg x v a, b⟩
  | x :: l, v :: r, i + 1, ⟨a, b⟩ => by simpa [Dm.setAt, MRs] using ⟨a, MRs.setAt hfg i b⟩

theorem MRs.snoc {ι : Io} {x : ME} {v : MapEntry} (hx : MR ι x v) : ∀ {l : List ME} {r : List MapEntry}, MRs ι l r → MRs ι (l ++ [x]) (r ++ [v])
  | [], [], _ => ⟨hx, trivial⟩
  | [], _ :: _, h => h.elim
  | _ :: _, [], h => h.elim
  | _ :: _, _ :: _, ⟨a, b⟩ => ⟨a, MRs.snoc hx b⟩

theorem MRs.erase {ι : Io} : ∀ {l : List ME} {r : List MapEntry} (i : Nat), MRs ι l r → MRs ι (l.eraseIdx i) (r.eraseIdx i)
  | [], [], i, _ => by simp [MRs]
  | [], _ :: _, _, h => h.elim
  | _ :: _, [], _, h => h.elim
  | x :: l, v :: r, 0, ⟨a, b⟩ => by simpa using b
  | x :: l, v :: r, i + 1, ⟨a, b⟩ => by simpa [MRs] using ⟨a, MRs.erase i b⟩

/-- A map is laid anew. -/
theorem map_put {P : Program} {ι : Io} {w : World} {h : Heap} (rep : Rep ι w h) {r : Nat} {es es' : List ME} {ck ck' : Nat} (hg : h.get r = some (.map es ck)) {cb N : Nat} (hi : ι r = some (cb, N))
    {ces' : Array MapEntry} (hm : MRs ι es' ces'.toList) :
    ∃ w', (setObj cb (.map ces' ck')).run P w = .ok () w' ∧ Post ι h (h.put r (.map es' ck')) w w' ι := by
  obtain ⟨cb', N', g1, ces, g2, g3⟩ := rep.obj r _ hg
  rw [hi] at g1; simp only [Option.some.injEq, Prod.mk.injEq] at g1
  obtain ⟨rfl, rfl⟩ := g1
  have hlt : cb < w.heap.size := rep.dom r cb N hi
  refine ⟨{ w with heap := w.heap.setIfInBounds cb (.map ces' ck') }, by simp [setObj, Sem.run, g2], Post.put rep hg hi ?_ (by simp) rfl rfl rfl ⟨ces', by simp [hlt], hm⟩⟩
  intro c hc
  simp [Array.getElem?_setIfInBounds, Ne.symm hc]

theorem getmap {P : Program} {ι : Io} {w : World} {h : Heap} (rep : Rep ι w h) {r : Nat} {es : List ME} {ck : Nat} (hg : h.get r = some (.map es ck)) {cb N : Nat} (hi : ι r = some (cb, N)) :
    ∃ ces : Array MapEntry, w.heap[cb]? = some (.map ces ck) ∧ (getObj cb).run P w = .ok (.map ces ck) w ∧ MRs ι es ces.toList := by
  obtain ⟨cb', N', g1, ces, g2, g3⟩ := rep.obj r _ hg
  rw [hi] at g1; simp only [Option.some.injEq, Prod.mk.injEq] at g1
  obtain ⟨rfl, rfl⟩ := g1
  exact ⟨ces, g2, by simp [getObj, Sem.run, g2], g3⟩

section
variable {P : Program} {ty : Ty} (hty : TyOk P ty) {ι : Io} {ρ : Env} {R : Operand → Value} (he : ER ι ρ R) {w : World} {h h' : Heap} (rep : Rep ι w h) {o : Oper} {v : AV}
include hty he rep

omit he rep in
theorem key_type {n : Nat} {kt : TypeId} {kv : CV} (hk : keyV ty n kt kv = true) : ∃ d, P.underlying kt = some d := by
  cases n with
  | zero => simp [keyV] at hk
  | succ n =>
    simp only [keyV] at hk
    split at hk
    · rename_i tk htk
      obtain ⟨i, d, s⟩ := hty.get htk
      exact ⟨d, s.und⟩
    · cases hk

theorem e_mapUpdate {t : TypeId} {x k y : Operand} (ho : o.op = .mapUpdate t x k y) (hq : eop ty ρ h (.mapUpdate t x k y) = some (v, h')) : EOk P ι h h' w R o v := by
  simp only [eop] at hq
  split at hq
  · rename_i ti ht
    obtain ⟨i, d, s⟩ := hty.get ht
    split at hq
    · rename_i kt et hk
      have hd := tk_map (s.k ▸ hk); subst hd
      split at hq
      · rename_i r kv vv hx hkv hvv
        cases hkey : keyV ty 12 kt kv with
        | false => rw [hkey] at hq; cases hq
        | true =>
          rw [hkey] at hq; simp only [cnd_true] at hq
          obtain ⟨cb, N, h1, h2⟩ := evS_rel he hx
          have hK := evC_rel he hkv
          have hV := evC_rel he hvv
          obtain ⟨dk, hdk⟩ := key_type hty hkey
          have hck := keyV_sound hty 12 kt kv (R k) 10000 false w hK hkey (by omega)
          split at hq
          · rename_i es ck hg
            obtain ⟨ces, g2, g2', g3⟩ := getmap (P := P) rep hg h1
            split at hq
            · rename_i j hpl
              obtain ⟨r', f1, f2⟩ := find_sound hty hdk hK g3 hpl (w := w)
              split at hq
              · rename_i e hej
                cases hcb : cbits e.key kv with
                | false => rw [hcb] at hq; cases hq
                | true =>
                  rw [hcb] at hq; simp only [cnd_true, Option.some.injEq, Prod.mk.injEq] at hq
                  obtain ⟨rfl, rfl⟩ := hq
                  obtain ⟨c, d1, d2, d3, d4⟩ := g3.get hej
                  have d1' : ces[j]? = some c := by rw [← Array.getElem?_toList]; exact d1
                  cases r' with
                  | none => exact f2.elim
                  | some q =>
                    obtain ⟨j', vv'⟩ := q
                    obtain ⟨rfl, _, _⟩ := f2
                    have hst := stays_run d2 hK hcb P w
                    have hm : MRs ι (setAt es j' fun e => ⟨kv, vv, e.born⟩) (ces.modify j' fun e => { e with key := R k, val := R y }).toList := by
                      rw [Array.toList_modify]
                      exact g3.setAt (f := fun e => ⟨kv, vv, e.born⟩) (g := fun e => { e with key := R k, val := R y }) (fun e c hec => ⟨hK, hV, hec.2.2⟩) j'
                    obtain ⟨w', p1, p2⟩ := map_put (P := P) rep hg h1 hm
                    refine ⟨.skip, undef, w', ι, ?_, .inr ⟨rfl, rfl⟩, ⟨#[], rfl, trivial⟩, p2⟩
                    simp [execOp, ho, Instr.mapUpdate, s.r_und, h2, g2', hck, f1, d1', hst, p1]
              · cases hq
            · rename_i hpl
              obtain ⟨r', f1, f2⟩ := find_sound hty hdk hK g3 hpl (w := w)
              simp only [Option.some.injEq, Prod.mk.injEq] at hq
              obtain ⟨rfl, rfl⟩ := hq
              cases r' with
              | some q => exact f2.elim
              | none =>
                have hm : MRs ι (es ++ [⟨kv, vv, ck⟩]) (ces.push { key := R k, val := R y, born := ck }).toList := by
                  rw [Array.toList_push]; exact g3.snoc ⟨hK, hV, rfl⟩
                obtain ⟨w', p1, p2⟩ := map_put (P := P) (ck' := ck + 1) rep hg h1 hm
                refine ⟨.skip, undef, w', ι, ?_, .inr ⟨rfl, rfl⟩, ⟨#[], rfl, trivial⟩, p2⟩
                simp [execOp, ho, Instr.mapUpdate, s.r_und, h2, g2', hck, f1, p1]
            · cases hq
          · cases hq
      · cases hq
    · cases hq
  · cases hq

theorem e_mapEntry {t : TypeId} {x k : Operand} (ho : o.op = .mapEntry t x k) (hq : eop ty ρ h (.mapEntry t x k) = some (v, h')) : EOk P ι h h' w R o v := by
  simp only [eop] at hq
  split at hq
  · rename_i ti ht
    obtain ⟨i, d, s⟩ := hty.get ht
    split at hq
    · rename_i kt et hk
      have hd := tk_map (s.k ▸ hk); subst hd
      split at hq
      · rename_i r kv te hx hkv hte
        obtain ⟨ie, de, se⟩ := hty.get hte
        cases hkey : keyV ty 12 kt kv with
        | false => rw [hkey] at hq; cases hq
        | true =>
          rw [hkey] at hq; simp only [cnd_true] at hq
          obtain ⟨cb, N, h1, h2⟩ := evS_rel he hx
          have hK := evC_rel he hkv
          obtain ⟨dk, hdk⟩ := key_type hty hkey
          have hck := keyV_sound hty 12 kt kv (R k) 10000 false w hK hkey (by omega)
          split at hq
          · rename_i es ck hg
            obtain ⟨ces, g2, g2', g3⟩ := getmap (P := P) rep hg h1
            split at hq
            · rename_i j hpl
              obtain ⟨r', f1, f2⟩ := find_sound hty hdk hK g3 hpl (w := w)
              split at hq
              · rename_i e hej
                cases hcb : cbits e.key kv with
                | false => rw [hcb] at hq; cases hq
                | true =>
                  rw [hcb] at hq; simp only [cnd_true, Option.some.injEq, Prod.mk.injEq] at hq
                  obtain ⟨rfl, rfl⟩ := hq
                  obtain ⟨c, d1, d2, d3, d4⟩ := g3.get hej
                  have d1' : ces[j]? = some c := by rw [← Array.getElem?_toList]; exact d1
                  cases r' with
                  | none => exact f2.elim
                  | some q =>
                    obtain ⟨j', vv'⟩ := q
                    obtain ⟨rfl, _, c', e1, e2⟩ := f2
                    simp only [Nat.sub_zero] at e1
                    rw [d1] at e1; simp only [Option.some.injEq] at e1; subst e1
                    have hst := stays_run d2 hK hcb P w
                    have hm : MRs ι (setAt es j' fun e => ⟨kv, e.val, e.born⟩) (ces.modify j' fun e => { e with key := R k }).toList := by
                      rw [Array.toList_modify]
                      exact g3.setAt (f := fun e => ⟨kv, e.val, e.born⟩) (g := fun e => { e with key := R k }) (fun e c hec => ⟨hK, hec.2.1, hec.2.2⟩) j'
                    obtain ⟨w', p1, p2⟩ := map_put (P := P) rep hg h1 hm
                    refine ⟨_, .tuple #[c.val, goInt c.born], w', ι, ?_, .inl rfl, ⟨_, rfl, d3, by rw [d4]; rfl, trivial⟩, p2⟩
                    simp [execOp, ho, Instr.mapEntry, s.r_und, h2, g2', hck, f1, d1', hst, p1, e2]
              · cases hq
            · rename_i hpl
              obtain ⟨r', f1, f2⟩ := find_sound hty hdk hK g3 hpl (w := w)
              split at hq
              · rename_i z hz
                obtain ⟨zv, z1, z2⟩ := se.r_zero w hz
                simp only [Option.some.injEq, Prod.mk.injEq] at hq
                obtain ⟨rfl, rfl⟩ := hq
                cases r' with
                | some q => exact f2.elim
                | none =>
                  have hm : MRs ι (es ++ [⟨kv, z, ck⟩]) (ces.push { key := R k, val := zv, born := ck }).toList := by
                    rw [Array.toList_push]; exact g3.snoc ⟨hK, cvOf_rel ι z2, rfl⟩
                  obtain ⟨w', p1, p2⟩ := map_put (P := P) (ck' := ck + 1) rep hg h1 hm
                  refine ⟨_, .tuple #[zv, goInt ck], w', ι, ?_, .inl rfl, ⟨_, rfl, cvOf_rel ι z2, rfl, trivial⟩, p2⟩
                  simp [execOp, ho, Instr.mapEntry, s.r_und, h2, g2', hck, f1, z1, p1]
              · cases hq
            · cases hq
          · cases hq
      · cases hq
    · cases hq
  · cases hq

omit hty he rep in
theorem MRs.findIdx {b : Nat} : ∀ {l : List ME} {r : List MapEntry} {i : Nat}, MRs ι l r → (l.findIdx? fun e => Nat.beq e.born b) = some i → (r.findIdx? fun e => (e.born : Int) == (b : Int)) = some i
  | [], [], _, _, h => by simp at h
  | [], _ :: _, _, h, _ => h.elim
  | _ :: _, [], _, h, _ => h.elim
  | x :: l, v :: r, i, ⟨a, c⟩, h => by
    rw [List.findIdx?_cons] at h ⊢
    cases hb : Nat.beq x.born b with
    | true =>
      rw [hb] at h
      have hv : ((v.born : Int) == (b : Int)) = true := by rw [a.2.2, Nat.eq_of_beq_eq_true hb]; simp
      rw [hv]; exact h
    | false =>
      rw [hb] at h
      have hv : ((v.born : Int) == (b : Int)) = false := by
        have := Nat.ne_of_beq_eq_false hb
        rw [a.2.2]; simp; omega
      rw [hv]
      simp only [Bool.false_eq_true, if_false, Option.map_eq_some_iff] at h ⊢
      obtain ⟨k, h1, h2⟩ := h
      exact ⟨k, MRs.findIdx c h1, h2⟩

theorem e_entryStore {t : TypeId} {x st y : Operand} (ho : o.op = .entryStore t x st y) (hq : eop ty ρ h (.entryStore t x st y) = some (v, h')) : EOk P ι h h' w R o v := by
  simp only [eop] at hq
  split at hq
  · rename_i r born vv hx hst hvv
    obtain ⟨cb, N, h1, h2⟩ := evS_rel he hx
    obtain ⟨kk, hs⟩ := evI_rel he hst
    have hV := evC_rel he hvv
    split at hq
    · rename_i es ck hg
      obtain ⟨ces, g2, g2', g3⟩ := getmap (P := P) rep hg h1
      split at hq
      · rename_i i hi
        simp only [Option.some.injEq, Prod.mk.injEq] at hq
        obtain ⟨rfl, rfl⟩ := hq
        have hfi : ces.findIdx? (fun e => (e.born : Int) == (born : Int)) = some i := by
          have hl := MRs.findIdx g3 hi
          rw [← List.findIdx?_toArray] at hl
          simpa using hl
        have hm : MRs ι (setAt es i fun e => ⟨e.key, vv, e.born⟩) (ces.modify i fun e => { e with val := R y }).toList := by
          rw [Array.toList_modify]
          exact g3.setAt (f := fun e => ⟨e.key, vv, e.born⟩) (g := fun e => { e with val := R y }) (fun e c hec => ⟨hec.1, hV, hec.2.2⟩) i
        obtain ⟨w', p1, p2⟩ := map_put (P := P) rep hg h1 hm
        refine ⟨.skip, undef, w', ι, ?_, .inr ⟨rfl, rfl⟩, ⟨#[], rfl, trivial⟩, p2⟩
        have hs' : R st = .int kk (born : Int) := hs
        simp [execOp, ho, Instr.entryStore, h2, g2', asInt, asIntOf, hs', hfi, p1]
      · cases hq
    · cases hq
  · cases hq

end
end Go.Proofs.YtafkkicnfngpoaaGreat.Dm
