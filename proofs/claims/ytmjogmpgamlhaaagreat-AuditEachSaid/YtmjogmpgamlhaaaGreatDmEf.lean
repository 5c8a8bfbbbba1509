/- All operations that change memory. -/
import Derived.Test.YtmjogmpgamlhaaaGreatDmAp
set_option linter.unusedVariables false
set_option linter.unusedSimpArgs false
set_option linter.unusedSectionVars false
namespace Go.Proofs.YtmjogmpgamlhaaaGreat.Dm
open Go

theorem MRs.filter {ι : Io} {p : ME → Bool} {q : MapEntry → Bool} (hpq : ∀ e c, MR ι e c → p e = q c) : ∀ {l : List ME} {r : List MapEntry}, MRs ι l r → MRs ι (l.filter p) (r.filter q)
  | [], [], _ => trivial
  | [], _ :: _, h => h.elim
  | _ :: _, [], h => h.elim
  | x :: l, v :: r, ⟨a, b⟩ => by
    simp only [List.filter_cons, hpq x v a]
    split
    · exact ⟨a, MRs.filter hpq b⟩
    · exact MRs.filter hpq b

theorem MRs.all {ι : Io} {p : ME → Bool} {q : MapEntry → Bool} (hpq : ∀ e c, MR ι e c → p e = q c) : ∀ {l : List ME} {r : List MapEntry}, MRs ι l r → l.all p = r.all q
  | [], [], _ => rfl
  | [], _ :: _, h => h.elim
  | _ :: _, [], h => h.elim
  | x :: l, v :: r, ⟨a, b⟩ => by simp only [List.all_cons, hpq x v a, MRs.all hpq b]

theorem any_contains (b : Nat) : ∀ l : List Nat, (l.any fun x => Nat.beq x b) = l.contains b
  | [] => rfl
  | x :: l => by
    rw [List.any_cons, List.contains_cons, any_contains b l]
    congr 1
    cases h : Nat.beq x b with
    | true => simp [Nat.eq_of_beq_eq_true h]
    | false => have := Nat.ne_of_beq_eq_false h; simp; omega

section
variable {P : Program} {ty : Ty} (hty : TyOk P ty) {ι : Io} {ρ : Env} {R : Operand → Value} (he : ER ι ρ R) {w : World} {h h' : Heap} (rep : Rep ι w h) {o : Oper} {v : AV}
include hty he rep

theorem e_next {x : Operand} {isStr : Bool} (ho : o.op = .next x isStr) (hq : eop ty ρ h (.next x isStr) = some (v, h')) : EOk P ι h h' w R o v := by
  simp only [eop] at hq
  split at hq
  · rename_i b hx
    obtain ⟨cb, N, h1, h2⟩ := evS_rel he hx
    split at hq
    · rename_i since seen st hg
      obtain ⟨cb', N', g1, m', g2, g3⟩ := rep.obj b _ hg
      rw [h1] at g1; simp only [Option.some.injEq, Prod.mk.injEq] at g1
      obtain ⟨rfl, rfl⟩ := g1
      cases m' with
      | some c => exact g3.elim
      | none =>
        simp only [Option.some.injEq, Prod.mk.injEq] at hq
        obtain ⟨rfl, rfl⟩ := hq
        refine ⟨_, .tuple #[.bool false], w, ι, ?_, .inl rfl, ⟨_, rfl, rfl, trivial⟩, Post.refl rep⟩
        simp [execOp, ho, Instr.next, h2, getObj, Sem.run, g2]
    · rename_i m since seen last hg
      obtain ⟨cb', N', g1, m', g2, g3⟩ := rep.obj b _ hg
      rw [h1] at g1; simp only [Option.some.injEq, Prod.mk.injEq] at g1
      obtain ⟨rfl, rfl⟩ := g1
      cases m' with
      | none => exact g3.elim
      | some c =>
        obtain ⟨M, g3⟩ := g3
        split at hq
        · rename_i es ck hm
          obtain ⟨ces, k1, k2, k3⟩ := getmap (P := P) rep hm g3
          cases hna : nextA es ck since seen last with
          | none => rw [hna] at hq; cases hq
          | some res =>
            rw [hna] at hq
            unfold nextA at hna
            cases hgo : (!seen.isEmpty && !es.isEmpty && es.all (fun e => Nat.ble last e.born)) with
            | true => rw [hgo] at hna; cases hna
            | false =>
              rw [hgo] at hna; simp only [cnd_false] at hna
              have hall : es.all (fun e => Nat.ble last e.born) = ces.toList.all (fun c => decide (c.born ≥ last)) := by
                refine MRs.all (fun e c hec => ?_) k3
                rw [hec.2.2, Bool.eq_iff_iff]
                simp only [decide_eq_true_iff]
                exact ⟨fun h => Nat.le_of_ble_eq_true h, fun h => Nat.ble_eq_true_of_le h⟩
              have hemp : es.isEmpty = ces.isEmpty := by
                have hl := k3.length
                rw [← Array.isEmpty_toList]
                cases es with
                | nil => cases hc : ces.toList with
                  | nil => rfl
                  | cons _ _ => rw [hc] at hl; simp at hl
                | cons a l => cases hc : ces.toList with
                  | nil => rw [hc] at hl; simp at hl
                  | cons _ _ => rfl
              have hgo' : (!seen.toArray.isEmpty && !ces.isEmpty && ces.all (fun c => decide (c.born ≥ last))) = false := by
                rw [← hgo, hemp, hall, Array.all_toList]; simp
              have hleft := MRs.filter (p := fun e => !(seen.any fun b => Nat.beq b e.born)) (q := fun c => !seen.contains c.born) (fun e c hec => by rw [any_contains, hec.2.2]) k3
              have hfil : (ces.filter fun e => !seen.toArray.contains e.born).toList = ces.toList.filter fun c => !seen.contains c.born := by simp
              split at hna
              · -- nothing is left
                rename_i hl
                simp only [Option.some.injEq] at hna; subst hna
                simp only [Option.some.injEq, Prod.mk.injEq] at hq
                obtain ⟨rfl, rfl⟩ := hq
                rw [hl] at hleft
                have hnil : ces.toList.filter (fun c => !seen.contains c.born) = [] := by
                  cases hc : ces.toList.filter (fun c => !seen.contains c.born) with
                  | nil => rfl
                  | cons _ _ => rw [hc] at hleft; exact hleft.elim
                have hfe : (ces.filter fun e => !seen.toArray.contains e.born) = #[] := by
                  apply Array.toList_inj.1; rw [hfil, hnil]
                refine ⟨_, .tuple #[.bool false], w, ι, ?_, .inl rfl, ⟨_, rfl, rfl, trivial⟩, Post.refl rep⟩
                simp only [execOp, ho, Instr.next, h2, Sem.run_bind]
                rw [show (getObj cb).run P w = .ok (.mapIter (some c) since seen.toArray last) w by simp [getObj, Sem.run, g2]]
                simp only [Result.andThen_ok, Sem.run_bind, k2]
                rw [hgo', hfe]
                simp [Question.forced]
              · rename_i e hl
                cases hbs : Nat.blt e.born since with
                | false => rw [hbs] at hna; cases hna
                | true =>
                  rw [hbs] at hna; simp only [cnd_true, Option.some.injEq] at hna; subst hna
                  simp only [Option.some.injEq, Prod.mk.injEq] at hq
                  obtain ⟨rfl, rfl⟩ := hq
                  rw [hl] at hleft
                  obtain ⟨ce, hce, hme⟩ : ∃ ce, ces.toList.filter (fun c => !seen.contains c.born) = [ce] ∧ MR ι e ce := by
                    cases hc : ces.toList.filter (fun c => !seen.contains c.born) with
                    | nil => rw [hc] at hleft; exact hleft.elim
                    | cons a r =>
                      rw [hc] at hleft
                      obtain ⟨q1, q2⟩ := hleft
                      cases r with
                      | nil => exact ⟨a, rfl, q1⟩
                      | cons _ _ => exact q2.elim
                  have hfe : (ces.filter fun e => !seen.toArray.contains e.born) = #[ce] := by
                    apply Array.toList_inj.1; rw [hfil, hce]
                  have hlt : ce.born < since := by rw [hme.2.2]; exact Nat.le_of_ble_eq_true hbs
                  have hlt2 : cb < w.heap.size := rep.dom b cb N h1
                  have hst : ∃ w', (setObj cb (.mapIter (some c) since (seen.toArray.push ce.born) ck)).run P w = .ok () w' ∧ Post ι h (h.put b (.it (some m) since (seen ++ [e.born]) ck)) w w' ι := by
                    refine ⟨{ w with heap := w.heap.setIfInBounds cb (.mapIter (some c) since (seen.toArray.push ce.born) ck) }, by simp [setObj, Sem.run, g2], Post.put rep hg h1 ?_ (by simp) rfl rfl rfl
                      ⟨some c, ?_, M, g3⟩⟩
                    · intro c' hc'; simp [Array.getElem?_setIfInBounds, Ne.symm hc']
                    · rw [hme.2.2]; simp [hlt2]
                  obtain ⟨w', p1, p2⟩ := hst
                  refine ⟨_, .tuple #[.bool true, ce.key, ce.val], w', ι, ?_, .inl rfl, ⟨_, rfl, rfl, hme.1, hme.2.1, trivial⟩, p2⟩
                  simp only [execOp, ho, Instr.next, h2, Sem.run_bind]
                  rw [show (getObj cb).run P w = .ok (.mapIter (some c) since seen.toArray last) w by simp [getObj, Sem.run, g2]]
                  simp only [Result.andThen_ok, Sem.run_bind, k2]
                  rw [hgo', hfe]
                  have hge : ¬ (ce.born ≥ since) := by omega
                  rw [List.push_toArray] at p1
                  simp [Question.forced, hlt, p1]
              · cases hna
        · cases hq
    · cases hq
  · cases hq

theorem e_convert {src dst : TypeId} {x : Operand} (ho : o.op = .convert src dst x) (hq : eop ty ρ h (.convert src dst x) = some (v, h')) (hf : Free ι h.next h'.next) : EOk P ι h h' w R o v := by
  simp only [eop] at hq
  split at hq
  · rename_i ts td l hts htd hx
    obtain ⟨i1, d1, s1⟩ := hty.get hts
    obtain ⟨i2, d2, s2⟩ := hty.get htd
    obtain ⟨s, hs, hl⟩ := evS_rel he hx
    split at hq
    · rename_i e hk
      have hd := tk_sl (s2.k ▸ hk); subst hd
      split at hq
      · rename_i te hte
        obtain ⟨i3, d3, s3⟩ := hty.get hte
        split at hq
        · rename_i hk3
          have hd := tk_int (s3.k ▸ hk3); subst hd
          cases hb : Nat.blt l.length 4611686018427387904 with
          | false => rw [hb] at hq; cases hq
          | true =>
            rw [hb] at hq; simp only [cnd_true, Option.some.injEq, Prod.mk.injEq] at hq
            obtain ⟨rfl, rfl⟩ := hq
            have hlt : l.length < 4611686018427387904 := Nat.le_of_ble_eq_true hb
            have hsz := str_len hl
            -- the block that the model lays, and marks
            obtain ⟨C, A, ⟨hC, hCm⟩, hA, hAl, hrun⟩ : ∃ (C : Nat) (A : Array Value), (s.size ≤ C ∧ C ≤ 9223372036854775807) ∧ A.size = C ∧ (∃ rest, A.toList = (s.data.toList.map fun (b : UInt8) => Value.int .u8 b.toNat) ++ rest) ∧
                (convert src dst (R x)).run P w = .ok (.slice (some ⟨w.heap.size, 0, none⟩) s.size C)
                (({ w with drawn := w.drawn + 1, heap := w.heap.push (.cells A e) } : World).freeze ⟨w.heap.size, A.size, none⟩ 1) := by
              have hfo : (Question.appendCap s.size 0 e).forced = false := rfl
              generalize hCd : (Question.appendCap s.size 0 e).cut (w.tape w.drawn (.appendCap s.size 0 e)) = C
              have hC : s.size ≤ C := by rw [← hCd]; simp [Question.cut]
              have hCm : C ≤ 9223372036854775807 := by
                rw [← hCd]
                have hlt := Nat.mod_lt (w.tape w.drawn (.appendCap s.size 0 e)) (show 0 < 2 ^ 63 - s.size by omega)
                simp only [Question.cut] at hlt ⊢
                omega
              refine ⟨C, (s.data.map fun (b : UInt8) => Value.int .u8 b.toNat) ++ Array.replicate (C - s.size) (.int .u8 0), ⟨hC, hCm⟩, ?_, ⟨(Array.replicate (C - s.size) (.int .u8 0)).toList, by simp⟩, ?_⟩
              · have : s.data.size = s.size := rfl
                simp [this]; omega
              · have hconv : (convert src dst (R x)).run P w = (Conv.stringToBytes e s).run P w := by
                  rw [hs]
                  cases d1 <;> simp only [convert, Sem.run_bind, s1.r_und, s2.r_und, s3.r_und, Result.andThen_ok]
                rw [hconv]
                generalize hAd : (s.data.map fun (b : UInt8) => Value.int .u8 b.toNat) ++ Array.replicate (C - s.size) (.int .u8 0) = A
                have hsh : ({ w with drawn := w.drawn + 1, heap := w.heap.push (.cells A e) } : World).shape? w.heap.size = some (e, A.size) := by simp [World.shape?]
                simp only [Conv.stringToBytes, Sem.run_bind, run_choose, hfo, Bool.false_eq_true, if_false, Result.andThen_ok, hCd, newRow, run_newObj, hAd, Sem.run_pure, markStringish, run_shape, hsh, run_freeze]
            obtain ⟨rest, hAl⟩ := hAl
            have hvs : Rs (fun b => if b = h.next then some (w.heap.size, C) else ι b) (l.map fun a => .i .u8 (.ofNat a)) (s.data.toList.map fun (b : UInt8) => Value.int .u8 b.toNat) := by
              rw [← hl]
              generalize s.data.toList = bs
              induction bs with
              | nil => trivial
              | cons a r ih => exact ⟨rfl, ih⟩
            obtain ⟨f, hfz, hfc⟩ : ∃ f : Obj → Obj, (({ w with drawn := w.drawn + 1, heap := w.heap.push (.cells A e) } : World).freeze ⟨w.heap.size, A.size, none⟩ 1).heap = (w.heap.push (.cells A e)).modify w.heap.size f ∧
                ∀ c el, f (.cells c el (0, 0)) = .cells c el (C, C + 1) := by
              rw [hA]
              unfold World.freeze
              rw [if_neg (by decide)]
              dsimp only
              refine ⟨_, rfl, ?_⟩
              intro c el
              rfl
            have hp := Post.push (w' := ({ w with drawn := w.drawn + 1, heap := w.heap.push (.cells A e) } : World).freeze ⟨w.heap.size, A.size, none⟩ 1)
              (.cells (Row.ofList (l.map fun a => .i .u8 (.ofNat a))) true) C rep hf
              (fun c hc => by rw [hfz, Array.getElem?_modify, if_neg (by omega), Array.getElem?_push, if_neg (by omega)]) (by rw [hfz]; simp) (by unfold World.freeze; rw [if_neg (by decide)]) (by unfold World.freeze; rw [if_neg (by decide)]) (by unfold World.freeze; rw [if_neg (by decide)])
              ⟨A, e, (C, C + 1), by rw [hfz, Array.getElem?_modify, if_pos rfl]; simp [hfc], hA, by show (l.map _).length ≤ C; rw [List.length_map]; omega, (by
                intro i v hi
                rw [Row.get_ofList] at hi
                obtain ⟨V, f1, f2⟩ := hvs.get hi
                refine ⟨V, ?_, f2⟩
                rw [← Array.getElem?_toList, hAl, List.getElem?_append_left]
                · exact f1
                · rcases Nat.lt_or_ge i (s.data.toList.map fun (b : UInt8) => Value.int .u8 b.toNat).length with h1 | h1
                  · exact h1
                  · rw [List.getElem?_eq_none h1] at f1; cases f1), fun h => by cases h⟩
            refine ⟨_, .slice (some ⟨w.heap.size, 0, none⟩) s.size C, _, _, ?_, .inl rfl, ?_, hp⟩
            · simp only [execOp, ho, Sem.run_bind, hrun, Result.andThen_ok, Sem.run_pure]
            · exact ⟨w.heap.size, C, 0, C, by simp, by rw [hsz], Nat.le_refl _, fun hf => (by cases hf), fun _ => ⟨by omega, .inr rfl, by omega⟩⟩
        · cases hq
      · cases hq
    · cases hq
  · cases hq

theorem e_copy {c : Call} {x1 x2 : Operand} {d x : SV} {st : TypeId} {ti te : TI} {e : TypeId} (ho : o.op = .call c) (hc : c.callee = .builtin .copy) (ha : c.args = #[x1, x2])
    (hs : VR ι d (R x1)) (hx : VR ι x (R x2)) (h0 : c.argTypes[0]? = some st) (ht : ty st = some ti) (hk : ti.k = .sl e)
    (hte : ty e = some te) {n : Nat} {xr : Row} (hsrc : srcRow h te.size x = some (n, xr))
    (hq : (match d with
      | .nsl => some (AV.cv (.sc (.i .i64 (.ofNat 0))), h)
      | .sl b o len _ z _ => cnd (Nat.beq z te.size)
        (match h.get b, xr.read 0 (Nat.mul (Nat.min n len) z) with
        | some (.cells r false), some l => match r.write o l with
          | some r' => some (.cv (.sc (.i .i64 (.ofNat (Nat.min n len)))), h.put b (.cells r' false))
          | none => none
        | _, _ => none) none
      | _ => none) = some (v, h')) : EOk P ι h h' w R o v := by
  obtain ⟨i1, d1, s1⟩ := hty.get ht
  obtain ⟨i3, d3, s3⟩ := hty.get hte
  have hd := tk_sl (s1.k ▸ hk); subst hd
  obtain ⟨hlen, xs, hxr, hxn, hxf⟩ := src_of (P := P) rep hx hsrc
  cases d <;> simp only [reduceCtorEq] at hq
  case nsl =>
    have hS : R x1 = .slice none 0 0 := hs
    simp only [Option.some.injEq, Prod.mk.injEq] at hq
    obtain ⟨rfl, rfl⟩ := hq
    obtain ⟨us, u1, u2⟩ := hxf w 0 rfl (Nat.zero_le _)
    exact ei_two hty he rep (V := goInt 0) ho hc ha (by rw [hS]; simp [builtin, Builtin.copy_, h0, s1.r_und, hlen, s3.r_size, u1]) rfl (Post.refl rep)
  case sl b off len cap z ex =>
    cases hzz : Nat.beq z te.size with
    | false => rw [hzz] at hq; cases hq
    | true =>
      rw [hzz] at hq; simp only [cnd_true] at hq
      obtain rfl : z = te.size := Nat.eq_of_beq_eq_true hzz
      obtain ⟨cb, N, o', cc, hb1, hb2, k0, k1, k2⟩ := hs
      split at hq
      · rename_i r l hg hl
        split at hq
        · rename_i r' hwr
          simp only [Option.some.injEq, Prod.mk.injEq] at hq
          obtain ⟨rfl, rfl⟩ := hq
          obtain ⟨us, u1, u2⟩ := hxf w (Nat.min n len) rfl (Nat.min_le_left _ _)
          have hls := hxr.read hl
          rw [show Nat.mul (Nat.min n len) te.size = Nat.min n len * te.size from rfl, ← u2] at hls
          by_cases hl0 : len = 0
          · subst hl0
            have hus : us.toList = [] := by rw [u2]; simp [Nat.min]
            have hnil : l = [] := by
              have := hls.length; rw [hus] at this; exact List.eq_nil_of_length_eq_zero this
            subst hnil
            obtain ⟨w', p1, p2⟩ := write_of (P := P) (vs := []) rep hg hb1 hwr trivial
            have hw' : w' = w := by simp [storeCells] at p1; exact p1.symm
            subst hw'
            exact ei_two hty he rep (V := goInt (Nat.min n 0 : Nat)) ho hc ha (by rw [hb2]; simp only [builtin, Builtin.copy_, List.getElem?_toArray, List.getElem?_cons_zero, List.getElem?_cons_succ, h0, Sem.run_bind, s1.r_und, Result.andThen_ok, hlen, s3.r_size, u1, hus, storeCells, Sem.run_pure]) rfl p2
          · have hoff : o' = off := by
              cases ex with
              | true => exact (k1 rfl).1
              | false => exact ((k2 rfl).2.1).resolve_left (by omega)
            subst hoff
            obtain ⟨w', p1, p2⟩ := write_of (P := P) rep hg hb1 hwr hls
            exact ei_two hty he rep (V := goInt (Nat.min n len : Nat)) ho hc ha (by rw [hb2]; simp only [builtin, Builtin.copy_, List.getElem?_toArray, List.getElem?_cons_zero, List.getElem?_cons_succ, h0, Sem.run_bind, s1.r_und, Result.andThen_ok, hlen, s3.r_size, u1, p1, Sem.run_pure]) rfl p2
        · cases hq
      · cases hq

theorem e_delete {c : Call} {x1 x2 : Operand} {x : SV} {kv : CV} {t kt et : TypeId} {ti : TI} (ho : o.op = .call c) (hc : c.callee = .builtin .delete) (ha : c.args = #[x1, x2])
    (hs : VR ι x (R x1)) (hkr : CVR ι kv (R x2)) (h0 : c.argTypes[0]? = some t) (ht : ty t = some ti) (hk : ti.k = .map kt et) (hkey : keyV ty 12 kt kv = true)
    (hq : (match pmAt ty h kt x kv with
      | some q => some (AV.tu [], h.put q.r (.pm q.k (pset q.n none q.es) (match q.v with
        | some _ => preO q.l
        | none => q.l)))
      | none => match x with
      | .nm => some (AV.tu [], h)
      | .m r => match h.get r with
        | some (.map es ck) => match placeA ty kt kv 0 es with
          | some (some i) => some (.tu [], h.put r (.map (es.eraseIdx i) ck))
          | some none => some (.tu [], h.put r (.map es ck))
          | none => none
        | _ => none
      | _ => none) = some (v, h')) : EOk P ι h h' w R o v := by
  obtain ⟨i1, d1, s1⟩ := hty.get ht
  have hd := tk_map (s1.k ▸ hk); subst hd
  obtain ⟨dk, hdk⟩ := key_type hty hkey
  split at hq
  · rename_i q hpa
    obtain ⟨e1, e2, e3, e4, e5, cb, N, ces, ck, i1, i2, g2, g3, hor⟩ := pm_found hty rep hpa hs hkr
    have g2' : (getObj cb).run P w = .ok (.map ces ck) w := by simp [getObj, Sem.run, g2]
    have hin : ∃ e ∈ q.es, e.key = q.n := by
      obtain ⟨e, a1, a2, a3⟩ := pfind_mem e4
      exact ⟨e, a1, a2⟩
    have hck := keyV_sound hty 12 kt kv (R x2) 10000 ces.isEmpty w hkr hkey (by omega)
    simp only [Option.some.injEq, Prod.mk.injEq] at hq
    obtain ⟨rfl, rfl⟩ := hq
    rcases hor with ⟨u, j, c, hv, hf, hj, hcc, hcv⟩ | ⟨hv, hf, hno⟩
    · simp only [hv]
      obtain ⟨w', p1, p2⟩ := pm_put (P := P) rep e2 i1 g2 hin (g3.del hj hcc) (fun x hne => ⟨fun hx => er_old hj hx (by rw [hcc]; exact hne), fun hx => er_sub.mem hx⟩)
      exact ei_two hty he rep (V := .tuple #[]) ho hc ha (by rw [i2]; simp [builtin, Builtin.delete_, h0, s1.r_und, g2', hck, hf w, p1]) ⟨_, rfl, trivial⟩ p2
    · simp only [hv]
      obtain ⟨w', p1, p2⟩ := pm_put (P := P) rep e2 i1 g2 hin (g3.not hno) (fun x hne => Iff.rfl)
      exact ei_two hty he rep (V := .tuple #[]) ho hc ha (by rw [i2]; simp [builtin, Builtin.delete_, h0, s1.r_und, g2', hck, hf w, p1]) ⟨_, rfl, trivial⟩ p2
  cases x <;> simp only [reduceCtorEq] at hq
  case nm =>
    have hS : R x1 = .map none := hs
    simp only [Option.some.injEq, Prod.mk.injEq] at hq
    obtain ⟨rfl, rfl⟩ := hq
    have hck := keyV_sound hty 12 kt kv (R x2) 10000 true w hkr hkey (by omega)
    exact ei_two hty he rep (V := .tuple #[]) ho hc ha (by rw [hS]; simp [builtin, Builtin.delete_, h0, s1.r_und, hck]) ⟨_, rfl, trivial⟩ (Post.refl rep)
  case m r =>
    obtain ⟨cb, N, h1, h2⟩ := hs
    split at hq
    · rename_i es ck hg
      obtain ⟨ces, g2, g2', g3⟩ := getmap (P := P) rep hg h1
      have hck := keyV_sound hty 12 kt kv (R x2) 10000 ces.isEmpty w hkr hkey (by omega)
      split at hq
      · rename_i j hpl
        obtain ⟨r', f1, f2⟩ := find_sound hty hdk hkr g3 hpl (w := w)
        simp only [Option.some.injEq, Prod.mk.injEq] at hq
        obtain ⟨rfl, rfl⟩ := hq
        cases r' with
        | none => exact f2.elim
        | some q =>
          obtain ⟨j', vv⟩ := q
          obtain ⟨rfl, _, cc, c1, _⟩ := f2
          have hm : MRs ι (es.eraseIdx j') (ces.eraseIdxIfInBounds j').toList := by
            rw [Array.toList_eraseIdxIfInBounds]; exact g3.erase j'
          obtain ⟨w', p1, p2⟩ := map_put (P := P) (ck' := ck) rep hg h1 hm
          exact ei_two hty he rep (V := .tuple #[]) ho hc ha (by rw [h2]; simp [builtin, Builtin.delete_, h0, s1.r_und, g2', hck, f1, p1]) ⟨_, rfl, trivial⟩ p2
      · rename_i hpl
        obtain ⟨r', f1, f2⟩ := find_sound hty hdk hkr g3 hpl (w := w)
        simp only [Option.some.injEq, Prod.mk.injEq] at hq
        obtain ⟨rfl, rfl⟩ := hq
        cases r' with
        | some q => exact f2.elim
        | none =>
          obtain ⟨w', p1, p2⟩ := map_put (P := P) (ck' := ck) rep hg h1 g3
          exact ei_two hty he rep (V := .tuple #[]) ho hc ha (by rw [h2]; simp [builtin, Builtin.delete_, h0, s1.r_und, g2', hck, f1, p1]) ⟨_, rfl, trivial⟩ p2
      · cases hq
    · cases hq

theorem e_clear {c : Call} {x1 : Operand} {x : SV} {t : TypeId} {ti : TI} (ho : o.op = .call c) (hc : c.callee = .builtin .clear) (ha : c.args = #[x1])
    (hs : VR ι x (R x1)) (h0 : c.argTypes[0]? = some t) (ht : ty t = some ti)
    (hq : (match ti.k, x with
      | .sl e, .sl b o len _ z _ => match ty e with
        | some te => match te.zero with
          | some zr => cnd (Nat.beq z te.size && Nat.beq zr.cells.length te.size)
            (match h.get b with
            | some (.cells r false) => match r.write o (repList zr.cells len) with
              | some r' => some (AV.tu [], h.put b (.cells r' false))
              | none => none
            | _ => none) none
          | none => none
        | none => none
      | _, _ => none) = some (v, h')) : EOk P ι h h' w R o v := by
  obtain ⟨i1, d1, s1⟩ := hty.get ht
  split at hq
  · rename_i e b off len cap z ex hk
    have hd := tk_sl (s1.k ▸ hk); subst hd
    obtain ⟨cb, N, o', cc, hb1, hb2, k0, k1, k2⟩ := hs
    split at hq
    · rename_i te hte
      obtain ⟨i3, d3, s3⟩ := hty.get hte
      split at hq
      · rename_i zr hz
        obtain ⟨zv, z1, z2⟩ := s3.r_zero w hz
        cases hb : (Nat.beq z te.size && Nat.beq zr.cells.length te.size) with
        | false => rw [hb] at hq; cases hq
        | true =>
          rw [hb] at hq; simp only [cnd_true] at hq
          split at hq
          · rename_i r hg
            split at hq
            · rename_i r' hwr
              simp only [Option.some.injEq, Prod.mk.injEq] at hq
              obtain ⟨rfl, rfl⟩ := hq
              have hzr := CVR.cells (cvOf_rel ι z2)
              by_cases hl0 : len = 0
              · subst hl0
                obtain ⟨w', p1, p2⟩ := write_of (P := P) (vs := []) rep hg hb1 hwr (by simp [repList, Rs])
                have hw' : w' = w := by simp [storeCells] at p1; exact p1.symm
                subst hw'
                exact ei_one hty he rep (V := .tuple #[]) ho hc ha (by rw [hb2]; simp [builtin, Builtin.clear_, h0, s1.r_und]) ⟨_, rfl, trivial⟩ p2
              · have hoff : o' = off := by
                  cases ex with
                  | true => exact (k1 rfl).1
                  | false => exact ((k2 rfl).2.1).resolve_left (by omega)
                subst hoff
                have hrr := rep_rel hzr len
                obtain ⟨w', p1, p2⟩ := write_of (P := P) rep hg hb1 hwr hrr
                obtain ⟨len, rfl⟩ : ∃ k, len = k + 1 := ⟨len - 1, by omega⟩
                have p1' : (storeCells ⟨cb, o', none⟩ (Builtin.zeroCells zv.cells (len + 1)).toList).run P w = .ok () w' := p1
                exact ei_one hty he rep (V := .tuple #[]) ho hc ha (by rw [hb2]; simp only [builtin, Builtin.clear_, List.getElem?_toArray, List.getElem?_cons_zero, h0, Sem.run_bind, s1.r_und, Result.andThen_ok, z1, p1', Sem.run_pure]) ⟨_, rfl, trivial⟩ p2
            · cases hq
          · cases hq
      · cases hq
    · cases hq
  · cases hq

end
end Go.Proofs.YtmjogmpgamlhaaaGreat.Dm

namespace Go.Proofs.YtmjogmpgamlhaaaGreat.Dm
open Go

section
variable {P : Program} {ty : Ty} (hty : TyOk P ty) {ι : Io} {ρ : Env} {R : Operand → Value} (he : ER ι ρ R) {w : World} {h h' : Heap} (rep : Rep ι w h) {o : Oper} {v : AV}
include hty he rep

set_option maxHeartbeats 1000000 in
theorem e_call {c : Call} (ho : o.op = .call c) (hq : eop ty ρ h (.call c) = some (v, h')) (hf : Free ι h.next h'.next) : EOk P ι h h' w R o v := by
  simp only [eop] at hq
  split at hq
  · rename_i b hc
    split at hq
    · rename_i s x ha
      obtain ⟨x1, x2, hx, hr1, hr2⟩ := two_args hty he rep ha
      have hargs := arr_two hty he rep hx
      split at hq
      · rename_i st xt h0 h1
        split at hq
        · rename_i ti tx ht htx
          split at hq
          · cases hq
          · rename_i e hk hni
            split at hq
            · rename_i te hte
              cases hz : zeroFits te with
              | false => rw [hz] at hq; cases hq
              | true =>
                rw [hz] at hq; simp only [cnd_true] at hq
                split at hq
                · rename_i n xr hsrc
                  exact e_append hty he rep ho hc hargs hr1 hr2 h0 h1 ht htx hk hni hte hz hsrc hf hq
                · cases hq
            · cases hq
          · cases hq
        · cases hq
      · cases hq
    · rename_i d x ha
      obtain ⟨x1, x2, hx, hr1, hr2⟩ := two_args hty he rep ha
      have hargs := arr_two hty he rep hx
      split at hq
      · rename_i st h0
        split at hq
        · rename_i ti ht
          split at hq
          · rename_i e hk
            split at hq
            · rename_i te hte
              split at hq
              · rename_i n xr hsrc
                exact e_copy hty he rep ho hc hargs hr1 hr2 h0 ht hk hte hsrc hq
              · cases hq
            · cases hq
          · cases hq
        · cases hq
      · cases hq
    · rename_i x kv ha
      obtain ⟨x1, x2, hx, hr1, hr2⟩ := two_args hty he rep ha
      have hargs := arr_two hty he rep hx
      split at hq
      · rename_i t h0
        split at hq
        · rename_i ti ht
          split at hq
          · rename_i kt et hk
            cases hkey : keyV ty 12 kt kv with
            | false => rw [hkey] at hq; cases hq
            | true =>
              rw [hkey] at hq; simp only [cnd_true] at hq
              exact e_delete hty he rep ho hc hargs hr1 hr2 h0 ht hk hkey hq
          · cases hq
        · cases hq
      · cases hq
    · rename_i x ha
      obtain ⟨x1, hx, hr1⟩ := one_arg hty he rep ha
      have hargs := arr_one hty he rep hx
      split at hq
      · rename_i t h0
        split at hq
        · rename_i ti ht
          exact e_clear hty he rep ho hc hargs hr1 h0 ht hq
        · cases hq
      · cases hq
    · cases hq
  · cases hq

theorem eop_sound (hq : eop ty ρ h o.op = some (v, h')) (hf : Free ι h.next h'.next) : EOk P ι h h' w R o v := by
  cases ho : o.op <;> rw [ho] at hq
  case store => exact e_store hty he rep ho hq
  case mapUpdate => exact e_mapUpdate hty he rep ho hq
  case mapEntry => exact e_mapEntry hty he rep ho hq
  case entryStore => exact e_entryStore hty he rep ho hq
  case range => exact e_range hty he rep ho hq hf
  case next => exact e_next hty he rep ho hq
  case convert => exact e_convert hty he rep ho hq hf
  case call => exact e_call hty he rep ho hq hf
  all_goals (simp only [eop] at hq; cases hq)

end
end Go.Proofs.YtmjogmpgamlhaaaGreat.Dm
