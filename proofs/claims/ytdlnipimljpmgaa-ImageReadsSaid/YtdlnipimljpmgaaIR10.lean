/- ImageReads: the law's body (under way). -/
import Derived.Test.YtdlnipimljpmgaaIR8
import Derived.Test.YtdlnipimljpmgaaIW19
set_option linter.unusedVariables false
set_option linter.unusedSimpArgs false
set_option linter.unusedSectionVars false
set_option linter.unnecessarySimpa false
namespace Go.Proofs.Ytdlnipimljpmgaa
open Go Go.RowKit Go.Im Go.Lib Go.Fl

theorem place2 (z : Int) (n : Nat) (h0 : 0 < n) (h1 : n ≤ 1000000) : ∃ k : Nat, (wrap64 (z.tmod n + n)).tmod n = (k : Int) ∧ k < n := by
  have h1 := Int.tmod_lt_of_pos z (b := n) (by omega)
  have h2 := Int.lt_tmod_of_pos z (b := n) (by omega)
  have e : wrap64 (z.tmod n + n) = z.tmod n + n := by
    unfold wrap64; omega
  have h3 := Int.emod_nonneg (z.tmod n + n) (b := n) (by omega)
  have h4 := Int.emod_lt_of_pos (z.tmod n + n) (b := n) (by omega)
  rw [e, Int.tmod_eq_emod_of_nonneg (by omega)]
  exact ⟨((z.tmod n + n) % n).toNat, by omega, by omega⟩

theorem tmods (k N : Nat) : ((k : Int).tmod 30).tmod N = ((k % 30 % N : Nat) : Int) := by
  have h : (k : Int).tmod 30 = ((k % 30 : Nat) : Int) := by
    rw [Int.tmod_eq_emod_of_nonneg (by omega)]
    omega
  rw [h, Int.tmod_eq_emod_of_nonneg (by omega)]
  simp

/-- An append to a row with a mark or none, of a slice that may be empty, as a step of a region. -/
theorem step_append_sliceM {P : Program} {ops : Array Oper} {o : Oper} {a : Act} {w : World} {K : Act → World → Prop} {Q : Exit → Act → World → Prop} {E : Prop} (hgd : o.guard = none) (s x : Operand) (t : TypeId)
    (hop : o.op = .call { callee := .builtin .append, args := #[s, x], argTypes := #[t, t] })
    (e : TypeId) (i : TypeInfo) (z : Value) (ht : P.underlying t = some (.slice e)) (hi : P.info? e = some i) (hz : i.zero = some z) (hs1 : i.size = 1) (hby : i.bytes = 1) (hzs : z.cells.size = 1)
    (base : Nat) (v : Value) (n : Nat) (xs : List Value) (hs : a.eval s = v) (hM : MRow w base e v n xs)
    (sp : Option Addr) (m c : Nat) (hx : a.eval x = .slice sp m c) (ad : Addr) (hsp : sp = some ad) (news : List Value) (hl : news.length = m) (hnews : ∀ j u, news[j]? = some u → w.cell? (ad.add j) = some u) (ho : ∀ u ∈ news, u.oneCell' = true) (N : Nat) (hN : n + m = N) (ys : List Value) (hys : xs ++ news = ys)
    (h63 : N ≤ maxLen) (hbytes : N ≤ 140737488355328) (hbase : base ≤ w.heap.size)
    (h : ∀ g c w', MRow w' base e (.slice (some ⟨g, 0, none⟩) N c) N ys → w.grownBy w' v.ownBlock → K (a.put o.dst (.slice (some ⟨g, 0, none⟩) N c)) w') :
    if Region.wanted o (yielded ops a.tmps) = true then Oper.wp P o a w K Q else E := by
  have hw : Region.wanted o (yielded ops a.tmps) = true := by simp [Region.wanted, hgd]
  rw [if_pos hw]
  subst hsp hN hys
  obtain ⟨v', w', hrun, r1, r2⟩ := append_sliceM (P := P) t o.type i z ht hi hz hs1 hby hzs hM ad m c news hl hnews ho h63 hbytes hbase
  obtain ⟨g, c', rfl⟩ := r1.form
  unfold Oper.wp
  simp [execOp, hop, resolve, invoke, builtin, hs, hx, hrun, Result.andThen]
  exact h g c' w' r1 r2

theorem MRow.drew {w : World} {base n : Nat} {e : TypeId} {v : Value} {xs : List Value} (h : MRow w base e v n xs) : MRow w.drew base e v n xs := h

theorem mrow_empty (w : World) (base : Nat) (hb : base ≤ w.heap.size) : MRow (w.alloc (.cells #[] 5)) base 5 (.slice (some ⟨w.heap.size, 0, none⟩) 0 0) 0 [] :=
  ⟨rfl, w.heap.size, 0, #[], (0, 0), rfl, hb, heap_n0, free_none _, Nat.le_refl _, Nat.zero_le _, rfl, rfl⟩

theorem mrow_empty1 (w : World) (o : Obj) (base : Nat) (hb : base ≤ w.heap.size) : MRow ((w.alloc o).alloc (.cells #[] 5)) base 5 (.slice (some ⟨w.heap.size + 1, 0, none⟩) 0 0) 0 [] := by
  have h := mrow_empty (w.alloc o) base (by simp; omega)
  have e : (w.alloc o).heap.size = w.heap.size + 1 := by simp
  rw [e] at h
  exact h

theorem mrow_cell {w : World} {base g n c k : Nat} {e : TypeId} {xs : List Value} (h : MRow w base e (.slice (some ⟨g, 0, none⟩) n c) n xs) (hk : k < n) : w.frozen? ⟨g, k, none⟩ = false ∧ ∃ v, w.cell? ⟨g, k, none⟩ = some v := by
  obtain ⟨h1, g', cap, cur, fz, he, hb, hg, hf, hnc, hcm, hcs, htake⟩ := h
  cases he
  have hlt : k < cur.size := by omega
  refine ⟨?_, cur[k], by simp [World.cell?, hg, hlt]⟩
  have := hf k hlt
  obtain ⟨a, b⟩ := fz
  simp only [World.frozen?, hg, Bool.and_eq_false_iff, decide_eq_false_iff_not]
  simp only at this
  omega

theorem mrow_set {w : World} {base g n c k : Nat} {e : TypeId} {xs : List Value} (h : MRow w base e (.slice (some ⟨g, 0, none⟩) n c) n xs) (v : Value) : MRow (w.setCell ⟨g, k, none⟩ v) base e (.slice (some ⟨g, 0, none⟩) n c) n (xs.set k v) := by
  obtain ⟨h1, g', cap, cur, fz, he, hb, hg, hf, hnc, hcm, hcs, htake⟩ := h
  cases he
  rw [setCell_eq_setRow w g k cur e fz v hg]
  refine ⟨by simpa using h1, g, c, cur.setIfInBounds k v, fz, rfl, hb, setRow_heap w g cur _ e _ hg, by simpa using hf, hnc, hcm, by simpa using hcs, ?_⟩
  rw [Array.toList_setIfInBounds, List.take_set, htake]

theorem mrow_lt {w : World} {base g n c : Nat} {e : TypeId} {xs : List Value} (h : MRow w base e (.slice (some ⟨g, 0, none⟩) n c) n xs) : base ≤ g ∧ g < w.heap.size ∧ n ≤ c := by
  have h1 := h.lt g rfl
  obtain ⟨_, g', cap, cur, fz, he, hb, hg, hf, hnc, hcm, hcs, htake⟩ := h
  cases he
  exact ⟨h1.1, h1.2, hnc⟩

theorem enc_short2 (m : Img) (h : m.leaves.length ≤ 12) (hl : ∀ f ∈ m.leaves, f.bytes.length = 4096) : (enc m).length ≤ 60000 := by
  have h1 := flat_short m.leaves hl
  have h2 : (encHead m).length = 18 := by simp [encHead, leB_length]
  unfold enc
  rw [List.length_append, h2]
  omega

theorem leaf_left {d : Rd} (h : Byte d.left) : Byte (leaf d).2.left := by
  unfold leaf
  simp only
  exact (take_byte (number_byte (number_byte (number_byte (number_byte h))))).2

theorem leavesOf_byte : ∀ (n : Nat) (r : Rd), Byte r.left → ∀ f ∈ (leavesOf n r).1, Byte f.bytes
  | 0, r, _, f, hf => by simp [leavesOf] at hf
  | n + 1, r, h, f, hf => by
    unfold leavesOf at hf
    split at hf
    · simp at hf
    · rcases List.mem_cons.1 hf with rfl | hf
      · exact (leaf_ok h).2.2
      · exact leavesOf_byte n _ (leaf_left h) f hf

theorem body_byte {r : Rd} (h : Byte r.left) : ∀ f ∈ (body r).leaves, Byte f.bytes := by
  unfold body
  dsimp only
  have h1 := number_byte (n := 1) h
  generalize number r 1 = a at h1 ⊢
  have h2 := number_byte (n := 1) h1
  generalize number a.2 1 = b at h2 ⊢
  have h3 := number_byte (n := 8) h2
  generalize number b.2 8 = c at h3 ⊢
  have h4 := number_byte (n := 4) h3
  generalize number c.2 4 = d at h4 ⊢
  exact leavesOf_byte _ _ h4

theorem dec_byte {L : List Int} {m : Img} (h : Byte L) (hm : dec L = some m) : ∀ f ∈ m.leaves, Byte f.bytes := by
  unfold dec at hm
  rw [Option.bind_eq_some_iff] at hm
  obtain ⟨m', h1, h2⟩ := hm
  split at h2
  · simp only [Option.some.injEq] at h2
    subst h2
    unfold parse at h1
    split at h1
    · simp only [Option.some.injEq] at h1
      subst h1
      exact body_byte (take_byte (d := ⟨L, false⟩) (n := 4) h).2
    · cases h1
  · cases h2

/-- What both readers tell. -/
def decI (o : Option Img) : Img := o.getD ⟨false, 0, 0, []⟩
def decE (o : Option Img) : Int := match o with | none => 4 | some _ => 0

theorem decI_facts {L : List Int} (h : Byte L) : (decI (dec L)).leaves.length ≤ 1024 ∧ ∀ f ∈ (decI (dec L)).leaves, f.bytes.length = 4096 ∧ Byte f.bytes := by
  cases hd : dec L with
  | none => exact ⟨Nat.zero_le _, fun f hf => by simp [decI] at hf⟩
  | some m =>
    obtain ⟨d1, d2, d3, d4⟩ := (dec_iff (byte_nn h) m).1 hd
    obtain ⟨f1, f2, f3⟩ := chk_facts d1
    exact ⟨f1, fun f hf => ⟨(f3 f hf).1, dec_byte h hd f hf⟩⟩

theorem leaves_nil (w : World) : LeavesF w.heap.size w (.slice none 0 0) [] [] := ⟨rfl, fun i s f h => by simp at h, none, 0, rfl, .inl ⟨rfl, rfl⟩⟩

theorem Decode_uni {B : Nat} {L : List Int} {x : Value} (w : World) (hbig : L.length ≤ 1000000) (hBw : B ≤ w.heap.size) (hby : Byte L) (hx : Bs B w x L) :
    Calls Try.prog 18 #[x] w fun e w' => ∃ (va : Option Addr) (vc : Nat) (fs : List Value), e = .returned (.tuple #[.agg #[.bool (decI (dec L)).on, .int .u64 (decI (dec L)).root, .int .i64 (decI (dec L)).asid, .slice va (decI (dec L)).leaves.length vc], .int .i64 (decE (dec L))]) ∧
      Below w.heap.size w w' ∧ LeavesF w'.heap.size w' (.slice va (decI (dec L)).leaves.length vc) (decI (dec L)).leaves fs := by
  refine (Decode_calls w hbig hBw hby hx).mono ?_
  rintro e w' ⟨hb, he⟩
  cases hd : dec L with
  | none =>
    rw [hd] at he
    subst he
    exact ⟨none, 0, [], rfl, hb, leaves_nil w'⟩
  | some m =>
    rw [hd] at he
    obtain ⟨v, fs, rfl, hl, hc⟩ := he
    obtain ⟨va, vc, rfl, -⟩ := hl.shape
    exact ⟨va, vc, fs, rfl, hb, hl⟩

theorem refDecode_uni {B : Nat} {L : List Int} {x : Value} (w : World) (hbig : L.length ≤ 1000000) (hBw : B ≤ w.heap.size) (hby : Byte L) (hx : Bs B w x L) (hcap : CapOk x) :
    Calls Try.prog 19 #[x] w fun e w' => ∃ (va : Option Addr) (vc : Nat) (fs : List Value), e = .returned (.tuple #[.agg #[.bool (decI (dec L)).on, .int .u64 (decI (dec L)).root, .int .i64 (decI (dec L)).asid, .slice va (decI (dec L)).leaves.length vc], .int .i64 (decE (dec L))]) ∧
      Below w.heap.size w w' ∧ LeavesF w'.heap.size w' (.slice va (decI (dec L)).leaves.length vc) (decI (dec L)).leaves fs := by
  refine (refDecode_calls w hbig hBw hby hx hcap).mono ?_
  rintro e w' ⟨hb, he⟩
  rw [← dec_refDec (byte_nn hby)] at he
  cases hd : dec L with
  | none =>
    rw [hd] at he
    subst he
    exact ⟨none, 0, [], rfl, hb, leaves_nil w'⟩
  | some m =>
    rw [hd] at he
    obtain ⟨v, fs, rfl, hl, hc⟩ := he
    obtain ⟨va, vc, rfl, -⟩ := hl.shape
    exact ⟨va, vc, fs, rfl, hb, hl⟩

/-- What the law reads third. -/
def Third (wc wz : World) (v : Value) : Prop := ∃ (gz cz M : Nat) (Y : List Int), v = .slice (some ⟨gz, 0, none⟩) M cz ∧ Y.length = M ∧ M ≤ 1000000 ∧ M ≤ cz ∧ Byte Y ∧ Bs wz.heap.size wz (.slice (some ⟨gz, 0, none⟩) M cz) Y ∧ Below wc.heap.size wc wz

theorem Third.mk {wc wz : World} {gz cz M : Nat} {Y : List Int} (h : MRow wz wc.heap.size 5 (.slice (some ⟨gz, 0, none⟩) M cz) M (Y.map (Value.int .u8))) (hM : M ≤ 1000000) (hb : Byte Y) (hbl : Below wc.heap.size wc wz) : Third wc wz (.slice (some ⟨gz, 0, none⟩) M cz) := by
  have h1 := h.1
  simp at h1
  exact ⟨gz, cz, M, Y, rfl, h1, hM, (mrow_lt h).2.2, hb, Bs.mrow h, hbl⟩

theorem Third.cut {wc wz : World} {gz cz M k : Nat} {Y : List Int} (h : MRow wz wc.heap.size 5 (.slice (some ⟨gz, 0, none⟩) M cz) M (Y.map (Value.int .u8))) (hM : M ≤ 1000000) (hk : k ≤ M) (hb : Byte Y) (hbl : Below wc.heap.size wc wz) : Third wc wz (.slice (some ⟨gz, 0, none⟩) k cz) := by
  have h1 := h.1
  simp at h1
  have hc := (mrow_lt h).2.2
  have hY := Bs.mrow h
  obtain ⟨a, c, he, h3⟩ := hY
  cases he
  have hl : (Y.take k).length = k := by simp; omega
  refine ⟨gz, cz, k, Y.take k, rfl, hl, by omega, by omega, fun x hx => hb x (List.mem_of_mem_take hx), ⟨_, cz, by rw [hl], ?_⟩, hbl⟩
  rcases h3 with h3 | ⟨b, off, he, hlt, hcell⟩
  · exact .inl (by rw [h3]; simp)
  · refine .inr ⟨b, off, he, hlt, fun j u hj => hcell j u ?_⟩
    rw [List.getElem?_map] at hj ⊢
    rw [List.getElem?_take] at hj
    split at hj
    · exact hj
    · simp at hj

theorem bs_take {B N c : Nat} {w : World} {a : Addr} {E : List Int} (h : Bs B w (.slice (some a) N c) E) (k : Nat) : ∀ j u, ((E.take k).map (Value.int .u8))[j]? = some u → w.cell? (a.add j) = some u := by
  obtain ⟨a', c', he, h3⟩ := h
  cases he
  intro j u hj
  rw [List.getElem?_map, List.getElem?_take] at hj
  split at hj
  · rcases h3 with h3 | ⟨b, off, he, hlt, hcell⟩
    · rw [h3] at hj; simp at hj
    · cases he
      rw [Addr.add_lit]
      exact hcell j u (by rw [List.getElem?_map]; exact hj)
  · simp at hj

theorem bs_drop {B N c g : Nat} {w : World} {E : List Int} (h : Bs B w (.slice (some ⟨g, 0, none⟩) N c) E) (k : Nat) (hk : N ≤ c) : ∀ j u, ((E.drop k).map (Value.int .u8))[j]? = some u → w.cell? ((if c = k then (⟨g, 0, none⟩ : Addr) else ⟨g, k, none⟩).add j) = some u := by
  obtain ⟨a', c', he, h3⟩ := h
  cases he
  intro j u hj
  rw [List.getElem?_map, List.getElem?_drop] at hj
  rcases h3 with h3 | ⟨b, off, he, hlt, hcell⟩
  · rw [h3] at hj; simp at hj
  · cases he
    have hlen : k + j < E.length := by
      rcases Nat.lt_or_ge (k + j) E.length with h | h
      · exact h
      · rw [List.getElem?_eq_none h] at hj; simp at hj
    rw [if_neg (by omega), Addr.add_lit]
    have := hcell (k + j) u (by rw [List.getElem?_map]; exact hj)
    rw [Nat.zero_add] at this
    exact this

theorem byte_drop {E : List Int} (h : Byte E) (k m : Nat) : Byte (E.take k ++ E.drop m) := by
  intro x hx
  rcases List.mem_append.1 hx with hx | hx
  · exact h x (List.mem_of_mem_take hx)
  · exact h x (List.mem_of_mem_drop hx)

theorem byte_put {E : List Int} (h : Byte E) (k : Nat) {b : Int} (hb : 0 ≤ b ∧ b < 256) : Byte (E.take k ++ [b] ++ E.drop k) := by
  intro x hx
  rcases List.mem_append.1 hx with hx | hx
  · rcases List.mem_append.1 hx with hx | hx
    · exact h x (List.mem_of_mem_take hx)
    · simp at hx; subst hx; exact hb
  · exact h x (List.mem_of_mem_drop hx)

theorem one_kept {w w' : World} {g gr : Nat} {x : Value} {t : TypeId} (h : w.heap[g]? = some (.cells #[x] t)) (hg : w.grownBy w' (some gr)) (hne : g ≠ gr) : ∀ j u, [x][j]? = some u → w'.cell? ((⟨g, 0, none⟩ : Addr).add j) = some u := by
  intro j u hj
  have hlt : g < w.heap.size := by
    rcases Nat.lt_or_ge g w.heap.size with h1 | h1
    · exact h1
    · rw [Array.getElem?_eq_none h1] at h; cases h
  match j, hj with
  | 0, hj =>
    simp at hj
    subst hj
    rw [Addr.add_lit]
    simp only [Nat.add_zero]
    rw [World.cell?_of_block (a := ⟨g, 0, none⟩) (hg.block g hlt (by simpa using hne))]
    simp [World.cell?, h]
  | j + 1, hj => simp at hj

theorem one_oneI (x : Int) : ∀ u ∈ [Value.int .u8 x], u.oneCell' = true := by
  intro u hu
  simp at hu
  subst hu
  rfl

theorem byte_set2 {E : List Int} (h : Byte E) (k : Nat) {b : Int} (hb : 0 ≤ b ∧ b < 256) : Byte (E.set k b) := by
  intro x hx
  rcases List.mem_or_eq_of_mem_set hx with hx | rfl
  · exact h x hx
  · exact hb

set_option maxRecDepth 100000 in
set_option maxHeartbeats 4000000 in
theorem Reads_any (rx : Option Addr) (rn rc : Nat) (L : List Int) (on : Bool) (root asid : Int) (x : Option Addr) (n c B : Nat) (l : List Ln) (at_ by_ how : Int) (w : World) (hBw : B ≤ w.heap.size) (hr : 0 ≤ root ∧ root < 18446744073709551616) (hrn : L.length = rn) (hby : Byte L) (hrc : rn ≤ rc) (hb_ : 0 ≤ by_ ∧ by_ < 256)
    (hraw : Bs B w (.slice rx rn rc) L) (hx : Lns B w (.slice x n c) l) :
    Calls Try.prog 4 #[.slice rx rn rc, .bool on, .int .u64 root, .int .i64 asid, .slice x n c, .int .i64 at_, .int .u8 by_, .int .i64 how] w fun e w' => e = .returned (.bool true) ∧ Below w.heap.size w w' := by
  have HRAW : Aside (Bs B w (.slice rx rn rc) L) := hraw
  have HX : Aside (Lns B w (.slice x n c) l) := hx
  have HBY : Aside (Byte L) := hby
  have HRN : Aside (L.length = rn) := hrn
  have HT : Aside (∀ w, Calls Try.prog 17 #[] w fun e w' => e = .returned (.bool true) ∧ Below w.heap.size w w') := told_calls
  obtain ⟨e0, he0, hz⟩ := Option.map_eq_some_iff.1 info5
  simp only [Prod.mk.injEq] at hz
  obtain ⟨hz0, hz1, hz2⟩ := hz
  clear hraw hx hby hrn
  go_enter Try.func4, Try.ntmps4
  by_cases h6 : (600 : Int) < (rn : Int)
  · go_wp2_with fail
    refine (HT.out _).mono ?_
    rintro e w5 ⟨rfl, hb5⟩
    go_wp2_with fail
    go_ret
    exact ⟨rfl, hb5⟩
  · have HR6 : Aside (rn ≤ 600) := by show rn ≤ 600; omega
    go_wp2_with fail
    refine (Made_any true on root asid x n c B l w hBw hr HX.out).mono ?_
    rintro e w1 ⟨rt, asd, ls, fa, fb, v1, v2, rfl, hhdr, ⟨last, hmo⟩, hl12, hsa, hsb, hb1⟩
    have HCK : Aside (chk ⟨on, rt, asd, ls⟩ = 0) := made_chk hhdr hmo hl12
    have HFL : Aside (∀ f ∈ ls, f.bytes.length = 4096 ∧ f.page < 268435456 ∧ wrong f = false) := (chk_facts HCK.out).2.2
    have HMO : Aside (∀ f ∈ ls, (0 ≤ f.page ∧ f.page < 18446744073709551616) ∧ Byte f.bytes ∧ 0 < f.bytes.length ∧ f.bytes.length ≤ 4096) := hmo.all
    have HRT : Aside (0 ≤ rt ∧ rt < 18446744073709551616) := hhdr.1
    have HLA : Aside (LeavesF w1.heap.size w1 v1 ls fa) := hsa.leaves.1
    have HLB : Aside (LeavesF w1.heap.size w1 v2 ls fb) := hsb.leaves.1
    have HCB : Aside (∀ f ∈ fb, CapOk f) := hsb.leaves.2
    have HB1 : Aside (Below w.heap.size w w1) := hb1
    have HL12 : Aside (ls.length ≤ 12) := hl12
    obtain ⟨va, vc, rfl, -⟩ := HLA.out.shape
    obtain ⟨vb, vd, rfl, -⟩ := HLB.out.shape
    clear hhdr hmo hl12 hsa hsb hb1
    go_wp2_with fail
    refine (refEnc_any on rt asd vb ls.length vd w1.heap.size ls fb _ rfl (by have := HL12.out; omega) (by simp; omega) HRT.out.1 HRT.out.2 (HLB.out.below (((Below.refl _ _).alloc (Nat.le_refl _) _).alloc (by simp) _)) (fun f hf => (HMO.out f hf).1) (fun f hf => (HFL.out f hf).1) HCB.out HCK.out).mono ?_
    rintro e w3 ⟨v3, rfl, hb3, N, hm3⟩
    have hNl : N = (enc ⟨on, rt, asd, ls⟩).length := by have := hm3.1; simp at this; omega
    have HEL : Aside ((enc ⟨on, rt, asd, ls⟩).length ≤ 60000) := enc_short2 _ HL12.out (fun f hf => (HFL.out f hf).1)
    have HEB : Aside (Byte (enc ⟨on, rt, asd, ls⟩)) := enc_byte _ (fun f hf => (HMO.out f hf).2.1)
    obtain ⟨E, hE⟩ : ∃ E, enc ⟨on, rt, asd, ls⟩ = E := ⟨_, rfl⟩
    have hN0 : 0 < N := by rw [hNl]; exact enc_pos _
    rw [hE] at HEL HEB hNl hm3
    have HB13 : Aside (Below w1.heap.size w1 w3) := (((Below.refl w1.heap.size w1).alloc (Nat.le_refl _) _).alloc (by simp) _).trans (hb3.mono (by simp; omega))
    have HWB3 : Aside (Below w.heap.size w w3) := HB1.out.trans (HB13.out.mono HB1.out.size)
    obtain ⟨gx, cx, rfl⟩ := hm3.form
    have HM3 : Aside (Bs w3.heap.size w3 (.slice (some ⟨gx, 0, none⟩) N cx) E) := Bs.mrow hm3
    have hcx : N ≤ cx := by obtain ⟨_, _, _, _, _, he, _, _, _, h, _⟩ := hm3; cases he; exact h
    have HEN : Aside (E.length = N) := hNl.symm
    have hNb : N ≤ 60000 := by have := HEL.out; have := HEN.out; omega
    clear hb3 hm3 hNl hE
    have hNi : ¬ (N : Int) = 0 := by omega
    go_upto_region 6 with fail
    obtain ⟨k0, hk0, hk0N⟩ := place2 at_ N hN0 (by omega)
    rw [hk0]
    clear hk0
    go_upto_if 58 with fail
    go_cut [21] from 29 (fun v wc => ∃ k : Nat, v = .int .i64 k ∧ k < N ∧ wc = w3)
    case first =>
      go_wp2_with fail
      all_goals go_meet
      all_goals first
        | exact ⟨k0, rfl, hk0N, rfl⟩
        | exact ⟨k0 % 30 % N, congrArg (Value.int .i64) (tmods k0 N), Nat.mod_lt _ hN0, rfl⟩
        | trace_state
    case rest =>
      obtain ⟨k, rfl, hkN, hww⟩ := hcut
      subst hww
      obtain ⟨w4, hw4⟩ : ∃ w4, w4 = wc := ⟨_, rfl⟩
      subst hw4
      clear hk0N
      have HNEW : Aside (∀ o j u, (E.map (Value.int .u8))[j]? = some u → (w4.alloc o).cell? ((⟨gx, 0, none⟩ : Addr).add j) = some u) := by
        intro o j u hj
        obtain ⟨a', c', he, h3⟩ := HM3.out
        cases he
        rcases h3 with h3 | ⟨b', off', he, hlt, hc⟩
        · rw [h3] at hj; simp at hj
        · cases he
          rw [Addr.add_lit, alloc_cells w4 o _ _ hlt]
          exact hc j u hj
      have HNLN : Aside ((E.map (Value.int .u8)).length = N) := by show _ = _; simp [HEN.out]
      go_upto_block 0 with (at_builtin; refine wpList_append_sliceM rfl _ _ 32 rfl 5 e0 (.int .u8 0) Try.underlying32 he0 hz0 hz1 hz2 rfl w4.heap.size _ 0 _ rfl (mrow_empty w4 w4.heap.size (Nat.le_refl _)) ⟨gx, 0, none⟩ N _ (E.map (Value.int .u8)) rfl HNLN.out (HNEW.out _) ints_one (by unfold maxLen; omega) (by omega) (by simp) ?_; intro gy cy wy hmy hgy)
      rw [Nat.zero_add, List.nil_append] at hmy
      have HMY : Aside (MRow wy w4.heap.size 5 (.slice (some ⟨gy, 0, none⟩) N cy) N (E.map (Value.int .u8))) := hmy
      have HGY : Aside (Below w4.heap.size w4 wy) := ((Below.refl w4.heap.size w4).alloc (Nat.le_refl _) _).grown hgy (by simp) (fun g hg => by cases hg; exact Nat.le_refl _)
      clear hmy hgy
      go_cut [22] from 29 (fun v wz => Third w4 wz v)
      case first =>
        obtain ⟨h3, hh3⟩ : ∃ h3, bits .and .i64 how 3 = h3 := ⟨_, rfl⟩
        rw [hh3]
        clear hh3
        have hkc : (k : Int) < (N : Int) := by omega
        by_cases h30 : h3 = 0
        · subst h30
          obtain ⟨hyf, yv, hyc⟩ := mrow_cell HMY.out hkN
          go_wp2_with fail
          go_meet
          have hm := mrow_set (k := k) HMY.out (.int .u8 by_)
          rw [← List.map_set] at hm
          exact Third.mk hm (by omega) (byte_set2 HEB.out k hb_) (HGY.out.setCell (mrow_lt HMY.out).1 _)
        · by_cases h31 : h3 = 1
          · subst h31
            have hkcx : (k : Int) ≤ (cx : Int) := by omega
            have hk1 : (k : Int) + 1 ≤ (N : Int) := by omega
            have hk10 : 0 ≤ (k : Int) + 1 := by omega
            have hncx : (N : Int) ≤ (cx : Int) := by omega
            have hw1 : IntKind.i64.wrap ((k : Int) + 1) = (k : Int) + 1 := IntWalk.i64_in _ (by omega)
            have hk1n : ((k : Int) + 1).toNat = k + 1 := by omega
            go_upto_region 14 with fail
            have HL1 : Aside (((E.take k).map (Value.int .u8)).length = k) := by show _ = _; simp [HEN.out]; omega
            have HL2 : Aside (((E.drop (k + 1)).map (Value.int .u8)).length = N - (k + 1)) := by show _ = _; simp [HEN.out]
            have HC0 : Aside (∀ w9, Below w4.heap.size w4 w9 → ∀ j u, ((E.take k).map (Value.int .u8))[j]? = some u → w9.cell? ((⟨gx, 0, none⟩ : Addr).add j) = some u) := fun w9 h9 => bs_take (HM3.out.below h9) k
            have HC1 : Aside (∀ w9, Below w4.heap.size w4 w9 → ∀ j u, ((E.drop (k + 1)).map (Value.int .u8))[j]? = some u → w9.cell? ((if cx = k + 1 then (⟨gx, 0, none⟩ : Addr) else ⟨gx, k + 1, none⟩).add j) = some u) := fun w9 h9 => bs_drop (HM3.out.below h9) (k + 1) hcx
            go_upto_region 14 with fail
            go_region_law (first
              | (have hfirst := HM5; clear hfirst; refine step_append_sliceM rfl (.tmp 84) (.tmp 88) 32 rfl 5 e0 (.int .u8 0) Try.underlying32 he0 hz0 hz1 hz2 rfl w4.heap.size (.slice (some ⟨g5, 0, none⟩) k c5) k ((E.take k).map (Value.int .u8)) rfl HM5.out.1 (if cx = k + 1 then some ⟨gx, 0, none⟩ else some ⟨gx, k + 1, none⟩) (N - (k + 1)) (cx - (k + 1)) rfl (if cx = k + 1 then ⟨gx, 0, none⟩ else ⟨gx, k + 1, none⟩) (by split <;> rfl) ((E.drop (k + 1)).map (Value.int .u8)) HL2.out (HC1.out _ HM5.out.2) ints_one (k + (N - (k + 1))) rfl _ rfl (by unfold maxLen; omega) (by omega) HM5.out.2.size ?_; intro g6 c6 w6 hm6 hg6; have HM6 : Aside (MRow w6 w4.heap.size 5 (.slice (some ⟨g6, 0, none⟩) (k + (N - (k + 1))) c6) (k + (N - (k + 1))) ((E.take k).map (Value.int .u8) ++ (E.drop (k + 1)).map (Value.int .u8)) ∧ Below w4.heap.size w4 w6) := ⟨hm6, HM5.out.2.grown hg6 HM5.out.2.size (fun g hg => by cases hg; exact (mrow_lt HM5.out.1).1)⟩; clear hm6 hg6)
              | (go_loud (refine step_append_sliceM rfl (.tmp 80) (.tmp 83) 32 rfl 5 e0 (.int .u8 0) Try.underlying32 he0 hz0 hz1 hz2 rfl w4.heap.size _ 0 [] rfl (mrow_empty _ w4.heap.size (by exact HGY.out.size)) (some ⟨gx, 0, none⟩) k cx rfl ⟨gx, 0, none⟩ rfl ((E.take k).map (Value.int .u8)) HL1.out (HC0.out _ (by first | exact HGY.out.alloc HGY.out.size _ | exact (HGY.out.alloc HGY.out.size _).drew)) ints_one k (Nat.zero_add k) ((E.take k).map (Value.int .u8)) (List.nil_append _) (by unfold maxLen; omega) (by omega) (by have := HGY.out.size; simp; omega) ?_; intro g5 c5 w5 hm5 hg5; have HM5 : Aside (MRow w5 w4.heap.size 5 (.slice (some ⟨g5, 0, none⟩) k c5) k ((E.take k).map (Value.int .u8)) ∧ Below w4.heap.size w4 w5) := ⟨hm5, (show Below w4.heap.size w4 _ from by first | exact HGY.out.alloc HGY.out.size _ | exact (HGY.out.alloc HGY.out.size _).drew).grown hg5 (by have := HGY.out.size; simp; omega) (fun g hg => by cases hg; exact HGY.out.size)⟩; clear hm5 hg5)))
            all_goals generalize (if cx = k + 1 then (some ⟨gx, 0, none⟩ : Option Addr) else some ⟨gx, k + 1, none⟩) = sp
            all_goals go_wp2_with fail
            all_goals go_meet
            all_goals refine Third.mk (Y := E.take k ++ E.drop (k + 1)) ?_ (by omega) (byte_drop HEB.out k (k + 1)) (HM6.out.2)
            all_goals rw [List.map_append]
            all_goals exact HM6.out.1
          · by_cases h32 : h3 = 2
            · subst h32
              have hkcx : (k : Int) ≤ (cx : Int) := by omega
              have hkN' : (k : Int) ≤ (N : Int) := by omega
              have hncx : (N : Int) ≤ (cx : Int) := by omega
              have HL1 : Aside (((E.take k).map (Value.int .u8)).length = k) := by show _ = _; simp [HEN.out]; omega
              have HL2 : Aside (((E.drop k).map (Value.int .u8)).length = N - k) := by show _ = _; simp [HEN.out]
              have HC0 : Aside (∀ w9, Below w4.heap.size w4 w9 → ∀ j u, ((E.take k).map (Value.int .u8))[j]? = some u → w9.cell? ((⟨gx, 0, none⟩ : Addr).add j) = some u) := fun w9 h9 => bs_take (HM3.out.below h9) k
              have HC1 : Aside (∀ w9, Below w4.heap.size w4 w9 → ∀ j u, ((E.drop k).map (Value.int .u8))[j]? = some u → w9.cell? ((if cx = k then (⟨gx, 0, none⟩ : Addr) else ⟨gx, k, none⟩).add j) = some u) := fun w9 h9 => bs_drop (HM3.out.below h9) k hcx
              go_upto_region 16 with fail
              go_region_law (first
                | (have hfirst := HM6; clear hfirst; refine step_append_sliceM rfl (.tmp 99) (.tmp 102) 32 rfl 5 e0 (.int .u8 0) Try.underlying32 he0 hz0 hz1 hz2 rfl w4.heap.size (.slice (some ⟨g6, 0, none⟩) (k + 1) c6) (k + 1) _ rfl HM6.out.1 (if cx = k then some ⟨gx, 0, none⟩ else some ⟨gx, k, none⟩) (N - k) (cx - k) rfl (if cx = k then ⟨gx, 0, none⟩ else ⟨gx, k, none⟩) (by split <;> rfl) ((E.drop k).map (Value.int .u8)) HL2.out (HC1.out _ HM6.out.2) ints_one (k + 1 + (N - k)) rfl _ rfl (by unfold maxLen; omega) (by omega) HM6.out.2.size ?_; intro g7 c7 w7 hm7 hg7; have HM7 : Aside (MRow w7 w4.heap.size 5 (.slice (some ⟨g7, 0, none⟩) (k + 1 + (N - k)) c7) (k + 1 + (N - k)) ((E.take k).map (Value.int .u8) ++ [.int .u8 by_] ++ (E.drop k).map (Value.int .u8)) ∧ Below w4.heap.size w4 w7) := ⟨hm7, HM6.out.2.grown hg7 HM6.out.2.size (fun g hg => by cases hg; exact (mrow_lt HM6.out.1).1)⟩; clear hm7 hg7)
                | (have hfirst := HM5; clear hfirst; go_loud (refine step_append_sliceM rfl (.tmp 96) (.tmp 98) 32 rfl 5 e0 (.int .u8 0) Try.underlying32 he0 hz0 hz1 hz2 rfl w4.heap.size (.slice (some ⟨g5, 0, none⟩) k c5) k ((E.take k).map (Value.int .u8)) rfl (by first | exact HM5.out.1 | exact HM5.out.1.drew | exact HM5.out.1.kept (World.grownBy_alloc _ _ none) (by simp [Value.ownBlock]) | exact (HM5.out.1.kept (World.grownBy_alloc _ _ none) (by simp [Value.ownBlock])).drew) _ 1 1 rfl _ rfl [.int .u8 by_] rfl (by first | exact cell_one_new _ _ _ | exact one_kept heap_m1 HG5.out (by first | omega | (simp; done) | (simp; omega)) | exact one_kept heap_n1 HG5.out (by first | omega | (simp; done) | (simp; omega))) (one_oneI _) (k + 1) rfl _ rfl (by unfold maxLen; omega) (by omega) (by first | exact HM5.out.2.size | (have := HM5.out.2.size; simp; omega)) ?_; intro g6 c6 w6 hm6 hg6; have HM6 : Aside (MRow w6 w4.heap.size 5 (.slice (some ⟨g6, 0, none⟩) (k + 1) c6) (k + 1) ((E.take k).map (Value.int .u8) ++ [.int .u8 by_]) ∧ Below w4.heap.size w4 w6) := ⟨hm6, (show Below w4.heap.size w4 _ from by first | exact HM5.out.2 | exact HM5.out.2.drew | exact HM5.out.2.alloc HM5.out.2.size _ | exact (HM5.out.2.alloc HM5.out.2.size _).drew).grown hg6 (by first | exact HM5.out.2.size | (have := HM5.out.2.size; simp; omega)) (fun g hg => by cases hg; exact (mrow_lt HM5.out.1).1)⟩; clear hm6 hg6))
                | (go_loud (refine step_append_sliceM rfl (.tmp 92) (.tmp 95) 32 rfl 5 e0 (.int .u8 0) Try.underlying32 he0 hz0 hz1 hz2 rfl w4.heap.size _ 0 [] rfl (by first | exact mrow_empty _ w4.heap.size (by exact HGY.out.size) | exact (mrow_empty _ w4.heap.size (by exact HGY.out.size)).drew | exact (mrow_empty _ w4.heap.size (by have := HGY.out.size; simp; omega)).drew | exact (mrow_empty1 _ _ w4.heap.size (by exact HGY.out.size)).drew | exact ((mrow_empty _ w4.heap.size (by exact HGY.out.size)).kept (World.grownBy_alloc _ _ none) (by simp [Value.ownBlock])).drew) (some ⟨gx, 0, none⟩) k cx rfl ⟨gx, 0, none⟩ rfl ((E.take k).map (Value.int .u8)) HL1.out (HC0.out _ (by first | exact HGY.out.alloc HGY.out.size _ | exact (HGY.out.alloc HGY.out.size _).drew | exact (HGY.out.alloc HGY.out.size _).alloc (by have := HGY.out.size; simp; omega) _ | exact ((HGY.out.alloc HGY.out.size _).alloc (by have := HGY.out.size; simp; omega) _).drew)) ints_one k (Nat.zero_add k) ((E.take k).map (Value.int .u8)) (List.nil_append _) (by unfold maxLen; omega) (by omega) (by have := HGY.out.size; simp; omega) ?_; intro g5 c5 w5 hm5 hg5; have HG5 : Aside (World.grownBy _ w5 _) := hg5; have HM5 : Aside (MRow w5 w4.heap.size 5 (.slice (some ⟨g5, 0, none⟩) k c5) k ((E.take k).map (Value.int .u8)) ∧ Below w4.heap.size w4 w5) := ⟨hm5, (show Below w4.heap.size w4 _ from by first | exact HGY.out.alloc HGY.out.size _ | exact (HGY.out.alloc HGY.out.size _).drew | exact (HGY.out.alloc HGY.out.size _).alloc (by have := HGY.out.size; simp; omega) _ | exact ((HGY.out.alloc HGY.out.size _).alloc (by have := HGY.out.size; simp; omega) _).drew).grown hg5 (by have := HGY.out.size; simp; omega) (fun g hg => by cases hg; first | exact HGY.out.size | (have := HGY.out.size; simp; omega))⟩; clear hm5 hg5)))
              all_goals generalize (if cx = k then (some ⟨gx, 0, none⟩ : Option Addr) else some ⟨gx, k, none⟩) = sp
              all_goals go_wp2_with fail
              all_goals go_meet
              all_goals refine Third.mk (Y := E.take k ++ [by_] ++ E.drop k) ?_ (by omega) (byte_put HEB.out k hb_) (HM7.out.2)
              all_goals rw [List.map_append, List.map_append]
              all_goals exact HM7.out.1
            · have hky : (k : Int) ≤ (cy : Int) := by have := (mrow_lt HMY.out).2.2; omega
              go_wp2_with fail
              go_meet
              exact Third.cut HMY.out (by omega) (by omega) HEB.out HGY.out
      case rest =>
        obtain ⟨gz, cz, M, Y, rfl, hYM, hM1, hMc, hYB, hYS, hbz⟩ := hcut
        have HBC : Aside (Below w.heap.size w wc) := HWB3.out.trans (hbz.mono HWB3.out.size)
        have HZ : Aside (∀ j, j < 3 → ∃ za zn zc Z, (#[Value.slice rx rn rc, .slice (some ⟨gx, 0, none⟩) N cx, .slice (some ⟨gz, 0, none⟩) M cz] : Array Value)[j]? = some (.slice za zn zc) ∧ Z.length = zn ∧ zn ≤ 1000000 ∧ zn ≤ zc ∧ Byte Z ∧ Bs wc.heap.size wc (.slice za zn zc) Z) := by
          intro j hj
          match j, hj with
          | 0, _ => exact ⟨rx, rn, rc, L, rfl, HRN.out, by have := HR6.out; omega, hrc, HBY.out, (HRAW.out.below (HBC.out.mono hBw)).up (by have := HBC.out.size; omega)⟩
          | 1, _ => exact ⟨_, N, cx, E, rfl, HEN.out, by omega, hcx, HEB.out, (HM3.out.below hbz).up hbz.size⟩
          | 2, _ => exact ⟨_, M, cz, Y, rfl, hYM, hM1, hMc, hYB, hYS⟩
        clear hYM hM1 hMc hYB hYS hbz
        go_wp2_with fail
        go_loopw [109] (fun i wr => ∃ j : Nat, j ≤ 3 ∧ i = .int .i64 j ∧ Below (wc.heap.size + 1) (wc.alloc (.cells #[.slice rx rn rc, .slice (some ⟨gx, 0, none⟩) N cx, .slice (some ⟨gz, 0, none⟩) M cz] 32)) wr)
          (fun i _ => 3 - (RowKit.intOf i).toNat)
        case atStart => exact ⟨0, by omega, rfl, Below.refl _ _⟩
        case round =>
          obtain ⟨j, hj, rfl, hbl⟩ := hrel
          have HBL : Aside (Below wc.heap.size wc wr) := (below_alloc wc _).trans (hbl.mono (by omega))
          have HBLL : Aside (Below (wc.heap.size + 1) (wc.alloc (.cells #[.slice rx rn rc, .slice (some ⟨gx, 0, none⟩) N cx, .slice (some ⟨gz, 0, none⟩) M cz] 32)) wr) := hbl
          by_cases hlt : j < 3
          · obtain ⟨za, zn, zc, Z, hz, hzl, hzn, hzc, hzB, hzS⟩ := HZ.out j hlt
            have hcell : wr.cell? ⟨wc.heap.size, j, none⟩ = some (.slice za zn zc) := by
              rw [hbl.cell (by simp)]
              exact cell_new0 () hz
            have HZS : Aside (Bs wc.heap.size wc (.slice za zn zc) Z) := hzS
            have HZB : Aside (Byte Z) := hzB
            have HZL : Aside (Z.length = zn) := hzl
            have hji : (j : Int) < 3 := by omega
            clear hz hzS hzB hzl hbl
            go_wp2_with fail
            refine (Decode_uni (L := Z) _ (by rw [HZL.out]; exact hzn) HBL.out.size HZB.out (HZS.out.below HBL.out)).mono ?_
            rintro e w5 ⟨va5, vc5, fs5, rfl, hb5, hl5⟩
            obtain ⟨m5, hm5⟩ : ∃ m5, decI (dec Z) = m5 := ⟨_, rfl⟩
            obtain ⟨er, her⟩ : ∃ er, decE (dec Z) = er := ⟨_, rfl⟩
            have HF5 : Aside (m5.leaves.length ≤ 1024 ∧ ∀ f ∈ m5.leaves, f.bytes.length = 4096 ∧ Byte f.bytes) := by
              have := decI_facts HZB.out
              rw [hm5] at this
              exact this
            have HRF : Aside (∀ w6, Below wc.heap.size wc w6 → Calls Try.prog 19 #[.slice za zn zc] w6 fun e w' => ∃ (va : Option Addr) (vc : Nat) (fs : List Value), e = .returned (.tuple #[.agg #[.bool m5.on, .int .u64 m5.root, .int .i64 m5.asid, .slice va m5.leaves.length vc], .int .i64 er]) ∧
                Below w6.heap.size w6 w' ∧ LeavesF w'.heap.size w' (.slice va m5.leaves.length vc) m5.leaves fs) := by
              intro w6 h6
              have h := refDecode_uni (L := Z) w6 (by rw [HZL.out]; exact hzn) h6.size HZB.out (HZS.out.below h6) hzc
              rw [hm5, her] at h
              exact h
            rw [hm5] at hl5
            rw [hm5, her]
            clear hm5 her
            obtain ⟨on5, rt5, as5, ls5⟩ := m5
            simp only at HF5 HRF hl5
            have HL5 : Aside (LeavesF w5.heap.size w5 (.slice va5 ls5.length vc5) ls5 fs5) := hl5
            have HB5 : Aside (Below wc.heap.size wc w5) := HBL.out.trans (hb5.mono HBL.out.size)
            have HBL5 : Aside (Below (wc.heap.size + 1) (wc.alloc (.cells #[.slice rx rn rc, .slice (some ⟨gx, 0, none⟩) N cx, .slice (some ⟨gz, 0, none⟩) M cz] 32)) w5) := HBLL.out.trans (hb5.mono (by have := HBLL.out.size; simp at this; omega))
            clear hb5 hl5 hcell
            go_wp2_with fail
            refine (HRF.out _ (HB5.out.alloc HB5.out.size _)).mono ?_
            rintro e w7 ⟨va7, vc7, fs7, rfl, hb7, hl7⟩
            have HBA : Aside (Box w7 w5.heap.size (.bool on5) (.int .u64 rt5) (.int .i64 as5) (.slice va5 ls5.length vc5)) := Box.new.all hb7
            have HL57 : Aside (LeavesF w7.heap.size w7 (.slice va5 ls5.length vc5) ls5 fs5) := ((HL5.out.below (below_alloc w5 _)).up (by simp)).below hb7 |>.up hb7.size
            have HL7 : Aside (LeavesF w7.heap.size w7 (.slice va7 ls5.length vc7) ls5 fs7) := hl7
            have HB57 : Aside (Below w5.heap.size w5 w7) := (below_alloc w5 _).trans (hb7.mono (by simp))
            clear hb7 hl7
            go_upto_region 22 with fail
            have HBA8 : Aside (Box (w7.alloc (.cells #[.bool on5, .int .u64 rt5, .int .i64 as5, .slice va7 ls5.length vc7] 29)) w5.heap.size (.bool on5) (.int .u64 rt5) (.int .i64 as5) (.slice va5 ls5.length vc5)) := HBA.out.all (below_alloc w7 _)
            have HBB8 : Aside (Box (w7.alloc (.cells #[.bool on5, .int .u64 rt5, .int .i64 as5, .slice va7 ls5.length vc7] 29)) w7.heap.size (.bool on5) (.int .u64 rt5) (.int .i64 as5) (.slice va7 ls5.length vc7)) := Box.new
            have HLA8 : Aside (LeavesF (w7.alloc (.cells #[.bool on5, .int .u64 rt5, .int .i64 as5, .slice va7 ls5.length vc7] 29)).heap.size (w7.alloc (.cells #[.bool on5, .int .u64 rt5, .int .i64 as5, .slice va7 ls5.length vc7] 29)) (.slice va5 ls5.length vc5) ls5 fs5) := (HL57.out.below (below_alloc w7 _)).up (by simp)
            have HLB8 : Aside (LeavesF (w7.alloc (.cells #[.bool on5, .int .u64 rt5, .int .i64 as5, .slice va7 ls5.length vc7] 29)).heap.size (w7.alloc (.cells #[.bool on5, .int .u64 rt5, .int .i64 as5, .slice va7 ls5.length vc7] 29)) (.slice va7 ls5.length vc7) ls5 fs7) := (HL7.out.below (below_alloc w7 _)).up (by simp)
            have HB8 : Aside (Below w5.heap.size w5 (w7.alloc (.cells #[.bool on5, .int .u64 rt5, .int .i64 as5, .slice va7 ls5.length vc7] 29))) := HB57.out.alloc HB57.out.size _
            have hg57 : w5.heap.size < w7.heap.size := HBA.out.1
            generalize w7.alloc (.cells #[.bool on5, .int .u64 rt5, .int .i64 as5, .slice va7 ls5.length vc7] 29) = w8 at *
            obtain ⟨-, a0, a1, a2, a3⟩ := HBA8.out
            obtain ⟨hlb, b0, b1, b2, b3⟩ := HBB8.out
            have hls : decide (ls5 = ls5) = true := decide_eq_true rfl
            have hee : (er == er) = true := beq_self_eq_true er
            go_cut [132] from 110 to 133 (fun v wx => v = .bool false ∧ Below w8.heap.size w8 wx)
            case first =>
              go_region_held3 (fun w' => (w'.cell? ⟨w5.heap.size, 0, none⟩ = some (.bool on5) ∧ w'.cell? ⟨w5.heap.size, 1, none⟩ = some (.int .u64 rt5) ∧ w'.cell? ⟨w5.heap.size, 2, none⟩ = some (.int .i64 as5) ∧ w'.cell? ⟨w5.heap.size, 3, none⟩ = some (.slice va5 ls5.length vc5)) ∧
                  w'.cell? ⟨w7.heap.size, 0, none⟩ = some (.bool on5) ∧ w'.cell? ⟨w7.heap.size, 1, none⟩ = some (.int .u64 rt5) ∧ w'.cell? ⟨w7.heap.size, 2, none⟩ = some (.int .i64 as5) ∧ w'.cell? ⟨w7.heap.size, 3, none⟩ = some (.slice va7 ls5.length vc7)) (go_keep) (first
                | (have hfirst := HL9; clear hfirst; go_simp; go_at_call 15; refine (Same_loop on5 on5 rt5 rt5 as5 as5 v9 va7 ls5.length v9c vc7 w9.heap.size ls5 ls5 fs5 fs7 w9 rfl rfl (by have := HF5.out.1; omega) (Nat.le_refl _) rfl rfl rfl HL9.out.1 HL9.out.2.1 HF5.out.2 HF5.out.2).mono ?_; rintro e w10 ⟨rfl, hb10⟩; have HB10 : Aside (Below w8.heap.size w8 w10) := HL9.out.2.2.1.trans (hb10.mono HL9.out.2.2.1.size); obtain ⟨-, k0, k1, k2, k3⟩ := HL9.out.2.2.2.1.all hb10; obtain ⟨-, j0, j1, j2, j3⟩ := HL9.out.2.2.2.2.all hb10; clear hb10)
                | (go_loud (go_simp; go_at_call 16; refine (of_callsE on5 rt5 as5 ls5 (B := w8.heap.size) (w := w8.drew) (by have := HF5.out.1; omega) (Nat.le_refl _) HLA8.out).mono ?_; rintro e w9 ⟨v9, v9c, rfl, hb9, hl9⟩; have HB9' : Below w8.heap.size w8 w9 := ⟨hb9.os, hb9.tape, hb9.output, hb9.size, hb9.block⟩; have HL9 : Aside (LeavesF w9.heap.size w9 (.slice v9 ls5.length v9c) ls5 fs5 ∧ LeavesF w9.heap.size w9 (.slice va7 ls5.length vc7) ls5 fs7 ∧ Below w8.heap.size w8 w9 ∧ Box w9 w5.heap.size (.bool on5) (.int .u64 rt5) (.int .i64 as5) (.slice va5 ls5.length vc5) ∧ Box w9 w7.heap.size (.bool on5) (.int .u64 rt5) (.int .i64 as5) (.slice va7 ls5.length vc7)) := ⟨hl9, (HLB8.out.below HB9').up HB9'.size, HB9', HBA8.out.all HB9', HBB8.out.all HB9'⟩; obtain ⟨-, t0, t1, t2, t3⟩ := HL9.out.2.2.2.1; obtain ⟨-, m0, m1, m2, m3⟩ := HL9.out.2.2.2.2; clear hb9 hl9 HB9')))
              all_goals (try go_wp2_with fail)
              all_goals go_meet
              all_goals exact ⟨rfl, HB10.out⟩
            case rest =>
              obtain ⟨rfl, hbx⟩ := hcut
              have HBX : Aside (Below (_ + 1) _ wc) := (HBL5.out.trans (HB8.out.mono (by have := HBL5.out.size; simp at this; omega))).trans (hbx.mono (by have := HBL5.out.size; have := HB8.out.size; simp at *; omega))
              clear hbx a0 a1 a2 a3 b0 b1 b2 b3
              go_wp2_with fail
              go_roundw
              case rel => exact ⟨j + 1, by omega, by go_num, HBX.out⟩
              case measure => simp [RowKit.intOf]; omega
          · have hji : ¬ (j : Int) < 3 := by omega
            go_wp2_with fail
            refine (HT.out _).mono ?_
            rintro e w10 ⟨rfl, hb10⟩
            have HB10 : Aside (Below w.heap.size w w10) := (HBC.out.trans (HBL.out.mono HBC.out.size)).trans (hb10.mono (by have := HBC.out.size; have := HBL.out.size; omega))
            clear hb10
            go_wp2_with fail
            go_ret
            exact ⟨rfl, HB10.out⟩
end Go.Proofs.Ytdlnipimljpmgaa
