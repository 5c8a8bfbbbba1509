/- The law's own blocks beside the machine's; plain laws of bytes. -/
import Derived.Test.YtafkkicnfngpoaaGreatY9
import Derived.OwnWalk
import Derived.Deep.LoopGhost
set_option linter.unusedVariables false
set_option linter.unusedSimpArgs false
set_option linter.unusedSectionVars false
namespace Go.Proofs.YtafkkicnfngpoaaGreat
open Go Go.RowKit Go.Lib Go.Proofs.YtafkkicnfngpoaaGreat.Dm

theorem Wy.upd {A : Nat → Prop} {cb : Nat} {g : Heap} {f : Nat → Nat} {w w' : World} (h : Wy A cb g f w) (hs : ∀ c, ¬ A c → c < w.heap.size → w'.heap[c]? = w.heap[c]?) (hz : w.heap.size ≤ w'.heap.size) : Wy A cb g f w' := by
  obtain ⟨ι, rep, i1, hf, h2, h3, hby, hno⟩ := h
  refine ⟨ι, ⟨rep.lt, fun b o hb => ?_, rep.inj, fun b c N hb => Nat.lt_of_lt_of_le (rep.dom b c N hb) hz⟩, i1, hf, h2, h3, hby, hno⟩
  obtain ⟨c, N, e1, e2⟩ := rep.obj b o hb
  exact ⟨c, N, e1, OR.mono (Sub.refl ι) (hs c (hno b o c N hb e1) (rep.dom b c N e1)) e2⟩

theorem Wy.anti {A B : Nat → Prop} {cb : Nat} {g : Heap} {f : Nat → Nat} {w : World} (h : Wy A cb g f w) (hs : ∀ c, B c → A c) : Wy B cb g f w := by
  obtain ⟨ι, rep, i1, hf, h2, h3, hby, hno⟩ := h
  exact ⟨ι, rep, i1, hf, h2, h3, hby, fun b o c N h1 h2 h3 => hno b o c N h1 h2 (hs c h3)⟩

/-- What lies ahead, and these blocks. -/
def Own (n : Nat) (l : List Nat) (c : Nat) : Prop := c < n ∨ c ∈ l

theorem heap_alloc (w : World) (o : Obj) (c : Nat) (hc : c < w.heap.size) : (w.alloc o).heap[c]? = w.heap[c]? := by
  show (w.heap.push o)[c]? = _
  rw [Array.getElem?_push, if_neg (by omega)]

theorem Wy.alloc {n : Nat} {l : List Nat} {cb : Nat} {g : Heap} {f : Nat → Nat} {w : World} (h : Wy (Own n l) cb g f w) (o : Obj) : Wy (Own n (w.heap.size :: l)) cb g f (w.alloc o) := by
  obtain ⟨ι, rep, i1, hf, h2, h3, hby, hno⟩ := h
  have hz : (w.alloc o).heap.size = w.heap.size + 1 := by simp
  refine ⟨ι, ⟨rep.lt, fun b o' hb => ?_, rep.inj, fun b c N hb => by have := rep.dom b c N hb; omega⟩, i1, hf, h2, h3, hby, fun b o' c N h1 h2 h3 => ?_⟩
  · obtain ⟨c, N, e1, e2⟩ := rep.obj b o' hb
    exact ⟨c, N, e1, OR.mono (Sub.refl ι) (heap_alloc w o c (rep.dom b c N e1)) e2⟩
  · have hlt := rep.dom b c N h2
    rcases h3 with h3 | h3
    · exact hno b o' c N h1 h2 (.inl h3)
    · rcases List.mem_cons.1 h3 with h3 | h3
      · omega
      · exact hno b o' c N h1 h2 (.inr h3)

/-- A row of 4096 bytes. -/
def Wnt (w : World) (wb : Nat) (f0 : Nat → Nat) : Prop := ∃ cs : Array Value, w.heap[wb]? = some (.cells cs 5) ∧ cs.size = 4096 ∧ ∀ i, i < 4096 → cs[i]? = some (.int .u8 (f0 i : Nat))

theorem Wnt.same {w w' : World} {wb : Nat} {f0 : Nat → Nat} (h : Wnt w wb f0) (hs : w'.heap[wb]? = w.heap[wb]?) : Wnt w' wb f0 := by
  obtain ⟨cs, h1, h2, h3⟩ := h
  exact ⟨cs, hs.trans h1, h2, h3⟩
theorem Wnt.lt {w : World} {wb : Nat} {f0 : Nat → Nat} (h : Wnt w wb f0) : wb < w.heap.size := by
  obtain ⟨cs, h1, h2, h3⟩ := h
  by_cases hlt : wb < w.heap.size
  · exact hlt
  · rw [Array.getElem?_eq_none (by omega)] at h1; cases h1
theorem Wnt.cell {w : World} {wb : Nat} {f0 : Nat → Nat} (h : Wnt w wb f0) {i : Nat} (hi : i < 4096) : w.cell? ⟨wb, i, none⟩ = some (.int .u8 (f0 i : Nat)) ∧ w.frozen? ⟨wb, i, none⟩ = false := by
  obtain ⟨cs, h1, h2, h3⟩ := h
  refine ⟨?_, ?_⟩
  · simp only [World.cell?, h1]; simpa using h3 i hi
  · simp only [World.frozen?, h1]; simp
theorem Wnt.congr {w : World} {wb : Nat} {f0 f1 : Nat → Nat} (h : Wnt w wb f0) (he : ∀ i, i < 4096 → f0 i = f1 i) : Wnt w wb f1 := by
  obtain ⟨cs, h1, h2, h3⟩ := h
  exact ⟨cs, h1, h2, fun i hi => by rw [← he i hi]; exact h3 i hi⟩

theorem heap_set (w : World) (b j : Nat) (v : Value) (c : Nat) (h : c ≠ b) : (w.setCell ⟨b, j, none⟩ v).heap[c]? = w.heap[c]? := by
  simp [World.setCell, Array.getElem?_modify, Ne.symm h]
theorem size_set (w : World) (b j : Nat) (v : Value) : (w.setCell ⟨b, j, none⟩ v).heap.size = w.heap.size := by
  simp [World.setCell]

theorem Wnt.set {w : World} {wb j u : Nat} {f0 : Nat → Nat} (h : Wnt w wb f0) (hj : j < 4096) : Wnt (w.setCell ⟨wb, j, none⟩ (.int .u8 (u : Nat))) wb (fun i => if i = j then u else f0 i) := by
  have hlt := h.lt
  obtain ⟨cs, h1, h2, h3⟩ := h
  refine ⟨cs.setIfInBounds j (.int .u8 (u : Nat)), ?_, by simpa using h2, fun i hi => ?_⟩
  · rw [Array.getElem?_eq_getElem hlt] at h1
    simp only [Option.some.injEq] at h1
    simp only [World.setCell, Array.getElem?_modify, if_true, Array.getElem?_eq_getElem hlt, h1, Option.map_some, Option.isSome_none, Bool.false_eq_true, if_false]
  · rw [Array.getElem?_setIfInBounds]
    by_cases e : j = i
    · subst e
      rw [if_pos rfl, if_pos (by omega)]; simp
    · have e2 : ¬ i = j := fun h => e h.symm
      rw [if_neg e, h3 i hi]
      simp only [e2, if_false]

structure Hy (W : World) (cb pb wb : Nat) (l : List Nat) (g : Heap) (f f0 : Nat → Nat) (w : World) : Prop where
  bl : Below W.heap.size W w
  pc : w.cell? ⟨pb, 0, none⟩ = some (.pointer (some ⟨cb, 0, none⟩))
  wc : Wnt w wb f0
  wy : Wy (Own W.heap.size l) cb g f w
  inl : pb ∈ l ∧ wb ∈ l
  ge : ∀ c ∈ l, W.heap.size ≤ c ∧ c < w.heap.size
  ne : pb ≠ wb

theorem cell_of_block {w : World} {cs : Array Value} {t : TypeId} {fr : Nat × Nat} {b j : Nat} {v : Value} (h : w.heap[b]? = some (.cells cs t fr)) (hj : cs[j]? = some v) : w.cell? ⟨b, j, none⟩ = some v := by
  simp only [World.cell?, h]; simpa using hj
theorem frozen_of_block {w : World} {cs : Array Value} {t : TypeId} {b j : Nat} (h : w.heap[b]? = some (.cells cs t)) : w.frozen? ⟨b, j, none⟩ = false := by
  simp only [World.frozen?, h]
  simp
theorem cell_same {w w' : World} {b : Nat} (h : w'.heap[b]? = w.heap[b]?) (j : Nat) : w'.cell? ⟨b, j, none⟩ = w.cell? ⟨b, j, none⟩ := by
  simp only [World.cell?, h]

section
variable {W : World} {cb pb wb : Nat} {l : List Nat} {g g' : Heap} {f f' f0 : Nat → Nat} {w w' : World}

theorem Hy.lt (h : Hy W cb pb wb l g f f0 w) : ∀ c, Own W.heap.size l c → c < w.heap.size := by
  intro c hc
  rcases hc with hc | hc
  · exact Nat.lt_of_lt_of_le hc h.bl.size
  · exact (h.ge c hc).2

theorem Hy.call (h : Hy W cb pb wb l g f f0 w) (hw : Wy (Own W.heap.size l) cb g' f' w') (hk : Kp (Own W.heap.size l) w w') : Hy W cb pb wb l g' f' f0 w' where
  bl := ⟨hk.os.trans h.bl.os, hk.tape.trans h.bl.tape, hk.output.trans h.bl.output, Nat.le_trans h.bl.size hk.size, fun c hc => (hk.block c (.inl hc)).trans (h.bl.block c hc)⟩
  pc := by rw [cell_same (hk.block pb (.inr h.inl.1))]; exact h.pc
  wc := h.wc.same (hk.block wb (.inr h.inl.2))
  wy := hw
  inl := h.inl
  ge c hc := ⟨(h.ge c hc).1, Nat.lt_of_lt_of_le (h.ge c hc).2 hk.size⟩
  ne := h.ne

theorem Hy.alloc (h : Hy W cb pb wb l g f f0 w) (o : Obj) : Hy W cb pb wb (w.heap.size :: l) g f f0 (w.alloc o) := by
  have hz : (w.alloc o).heap.size = w.heap.size + 1 := by simp
  refine ⟨⟨h.bl.os, h.bl.tape, h.bl.output, by have := h.bl.size; omega, fun c hc => ?_⟩, ?_, ?_, h.wy.alloc o, ⟨?_, ?_⟩, fun c hc => ?_, h.ne⟩
  · rw [heap_alloc w o c (Nat.lt_of_lt_of_le hc h.bl.size)]; exact h.bl.block c hc
  · rw [cell_same (heap_alloc w o pb (h.ge pb h.inl.1).2)]; exact h.pc
  · exact h.wc.same (heap_alloc w o wb (h.ge wb h.inl.2).2)
  · exact List.mem_cons_of_mem _ h.inl.1
  · exact List.mem_cons_of_mem _ h.inl.2
  · rcases List.mem_cons.1 hc with rfl | hc
    · exact ⟨h.bl.size, by omega⟩
    · have := h.ge c hc; omega

theorem Hy.upd (h : Hy W cb pb wb l g f f0 w) {b : Nat} (hb : b ∈ l) (hp : b ≠ pb) (hs : ∀ c, c ≠ b → w'.heap[c]? = w.heap[c]?) (hz : w'.heap.size = w.heap.size) (ho : w'.os = w.os ∧ w'.tape = w.tape ∧ w'.output = w.output) {f1 : Nat → Nat}
    (hr : Wnt w' wb f1) : Hy W cb pb wb l g f f1 w' where
  bl := ⟨ho.1.trans h.bl.os, ho.2.1.trans h.bl.tape, ho.2.2.trans h.bl.output, by have := h.bl.size; omega, fun c hc => by
    rw [hs c (fun e => by have := (h.ge b hb).1; omega)]; exact h.bl.block c hc⟩
  pc := by rw [cell_same (hs pb (Ne.symm hp))]; exact h.pc
  wc := hr
  wy := h.wy.upd (fun c hc _ => hs c (fun e => hc (.inr (e ▸ hb)))) (by omega)
  inl := h.inl
  ge c hc := by have := h.ge c hc; omega
  ne := h.ne

theorem Hy.set (h : Hy W cb pb wb l g f f0 w) {b : Nat} (hb : b ∈ l) (hp : b ≠ pb ∧ b ≠ wb) (j : Nat) (v : Value) : Hy W cb pb wb l g f f0 (w.setCell ⟨b, j, none⟩ v) :=
  h.upd hb hp.1 (fun c hc => heap_set w b j v c hc) (size_set w b j v) ⟨rfl, rfl, rfl⟩ (h.wc.same (heap_set w b j v wb (Ne.symm hp.2)))

theorem Hy.setW (h : Hy W cb pb wb l g f f0 w) {j u : Nat} (hj : j < 4096) : Hy W cb pb wb l g f (fun i => if i = j then u else f0 i) (w.setCell ⟨wb, j, none⟩ (.int .u8 (u : Nat))) :=
  h.upd h.inl.2 (Ne.symm h.ne) (fun c hc => heap_set w wb j _ c hc) (size_set w wb j _) ⟨rfl, rfl, rfl⟩ (h.wc.set hj)

theorem Hy.congr0 (h : Hy W cb pb wb l g f f0 w) {f1 : Nat → Nat} (he : ∀ i, i < 4096 → f0 i = f1 i) : Hy W cb pb wb l g f f1 w := ⟨h.bl, h.pc, h.wc.congr he, h.wy, h.inl, h.ge, h.ne⟩

theorem Hy.less (h : Hy W cb pb wb l g f f0 w) : Hy W cb pb wb [pb, wb] g f f0 w where
  bl := h.bl
  pc := h.pc
  wc := h.wc
  wy := h.wy.anti (fun c hc => by
    rcases hc with hc | hc
    · exact .inl hc
    · simp only [List.mem_cons, List.not_mem_nil, or_false] at hc
      rcases hc with rfl | rfl
      · exact .inr h.inl.1
      · exact .inr h.inl.2)
  inl := by simp
  ge c hc := by
    simp only [List.mem_cons, List.not_mem_nil, or_false] at hc
    rcases hc with rfl | rfl
    · exact h.ge _ h.inl.1
    · exact h.ge _ h.inl.2
  ne := h.ne

theorem Hy.drew (h : Hy W cb pb wb l g f f0 w) : Hy W cb pb wb l g f f0 w.drew :=
  ⟨⟨h.bl.os, h.bl.tape, h.bl.output, h.bl.size, h.bl.block⟩, h.pc, h.wc, h.wy.upd (fun _ _ _ => rfl) (Nat.le_refl _), h.inl, h.ge, h.ne⟩

theorem Hy.below (h : Hy W cb pb wb l g f f0 w) (hb : Below w.heap.size w w') : Hy W cb pb wb l g f f0 w' :=
  h.call (h.wy.upd (fun c _ hc => hb.block c hc) hb.size) ⟨hb.os, hb.tape, hb.output, hb.size, fun c hc => hb.block c (h.lt c hc)⟩
end

theorem Wy.lt_of {A : Nat → Prop} {cb : Nat} {g : Heap} {f : Nat → Nat} {w : World} (h : Wy A cb g f w) {i : Nat} (hi : i < 4096) : f i < 256 := by
  obtain ⟨ι, -, -, -, -, -, hby, -⟩ := h
  obtain ⟨c, -, h2⟩ := hby i hi
  exact h2

theorem leF_lt {f : Nat → Nat} : ∀ (s x : Nat), (∀ i, x ≤ i → i < x + s → f i < 256) → leF f x s < 256 ^ s
  | 0, x, h => by simp [leF]
  | s + 1, x, h => by
    have h1 := h x (Nat.le_refl _) (by omega)
    have h2 := leF_lt s (x + 1) (fun i h3 h4 => h i (by omega) (by omega))
    show f x + 256 * leF f (x + 1) s < _
    rw [Nat.pow_succ]
    omega

/-! ### bytes -/

theorem putF_step (f : Nat → Nat) (x v k i : Nat) : putF f x (k + 1) v i = if i = x + k then v / 256 ^ k % 256 else putF f x k v i := by
  unfold putF
  by_cases h : i = x + k
  · subst h
    rw [if_pos ⟨by omega, by omega⟩, if_pos rfl, show x + k - x = k by omega]
  · rw [if_neg h]
    by_cases h2 : x ≤ i ∧ i < x + k
    · rw [if_pos h2, if_pos ⟨h2.1, by omega⟩]
    · rw [if_neg h2, if_neg (by omega)]

theorem putF_zero (f : Nat → Nat) (x v i : Nat) : putF f x 0 v i = f i := by
  unfold putF
  rw [if_neg (by omega)]

theorem leF_digits {g : Nat → Nat} : ∀ (s x v : Nat), (∀ i, i < s → g (x + i) = v / 256 ^ i % 256) → leF g x s = v % 256 ^ s
  | 0, x, v, h => by simp [leF, Nat.mod_one]
  | s + 1, x, v, h => by
    show g x + 256 * leF g (x + 1) s = _
    have h0 := h 0 (by omega)
    simp only [Nat.add_zero, Nat.pow_zero, Nat.div_one] at h0
    rw [leF_digits s (x + 1) (v / 256) (fun i hi => by
      have := h (i + 1) (by omega)
      rw [show x + 1 + i = x + (i + 1) by omega, this, Nat.pow_succ, Nat.mul_comm, Nat.div_div_eq_div_mul]), h0]
    rw [Nat.pow_succ, Nat.mul_comm (256 ^ s) 256, Nat.mod_mul]

theorem leF_put (f : Nat → Nat) (x s v : Nat) : leF (putF f x s v) x s = v % 256 ^ s :=
  leF_digits s x v (fun i hi => by
    unfold putF
    rw [if_pos ⟨by omega, by omega⟩, show x + i - x = i by omega])

theorem bits_and (v m : Nat) (hv : v < 18446744073709551616) (hm : m < 18446744073709551616) : bits .and .u64 (v : Int) (m : Int) = ((v &&& m : Nat) : Int) := by
  have e : bits .and .u64 (v : Int) (m : Int) = IntKind.wrap .u64 ((BitVec.ofInt 64 (v : Int) &&& BitVec.ofInt 64 (m : Int)).toNat : Int) := rfl
  have t : (BitVec.ofInt 64 (v : Int) &&& BitVec.ofInt 64 (m : Int)).toNat = v &&& m := by
    rw [BitVec.toNat_and, BitVec.toNat_ofInt, BitVec.toNat_ofInt]
    congr 1 <;> omega
  have hle : v &&& m ≤ v := Nat.and_le_left
  rw [e, t, IntKind.wrap_u64]
  omega

theorem bits_mod (v j : Nat) (hv : v < 18446744073709551616) (hj : j ≤ 63) : bits .and .u64 (v : Int) ((2 ^ j - 1 : Nat) : Int) = ((v % 2 ^ j : Nat) : Int) := by
  have h1 : 2 ^ j ≤ 2 ^ 63 := Nat.pow_le_pow_right (by decide) hj
  rw [bits_and v _ hv (by omega), Nat.and_two_pow_sub_one_eq_mod]

theorem bits_or (w b : Nat) (hb : b < 256) (hw : w < 72057594037927936) : bits .or .u64 ((w * 256 : Nat) : Int) (b : Int) = ((b + 256 * w : Nat) : Int) := by
  have e : bits .or .u64 ((w * 256 : Nat) : Int) (b : Int) = IntKind.wrap .u64 ((BitVec.ofInt 64 ((w * 256 : Nat) : Int) ||| BitVec.ofInt 64 (b : Int)).toNat : Int) := rfl
  have t : (BitVec.ofInt 64 ((w * 256 : Nat) : Int) ||| BitVec.ofInt 64 (b : Int)).toNat = b + 256 * w := by
    rw [BitVec.toNat_or, BitVec.toNat_ofInt, BitVec.toNat_ofInt]
    have a1 : (((w * 256 : Nat) : Int) % ((2 ^ 64 : Nat) : Int)).toNat = w * 256 := by omega
    have a2 : ((b : Int) % ((2 ^ 64 : Nat) : Int)).toNat = b := by omega
    rw [a1, a2]
    have := Nat.two_pow_add_eq_or_of_lt (i := 8) (b := b) hb w
    rw [Nat.mul_comm w 256]
    show 2 ^ 8 * w ||| b = _
    rw [← this]; omega
  rw [e, t, IntKind.wrap_u64]
  omega

theorem andNot_bv (x : Nat) (hx : x < 4096) (j : Nat) (hj : j ≤ 3) : (BitVec.ofInt 64 (x : Int) &&& ~~~(BitVec.ofInt 64 ((2 ^ j - 1 : Nat) : Int))).toNat = x - x % 2 ^ j := by
  have hp : 2 ^ j ≤ 8 := Nat.pow_le_pow_right (by decide) hj
  have hp1 : 0 < 2 ^ j := Nat.two_pow_pos j
  rw [BitVec.toNat_and, BitVec.toNat_not, BitVec.toNat_ofInt, BitVec.toNat_ofInt]
  have a1 : ((x : Int) % ((2 ^ 64 : Nat) : Int)).toNat = x := by omega
  have a2 : (((2 ^ j - 1 : Nat) : Int) % ((2 ^ 64 : Nat) : Int)).toNat = 2 ^ j - 1 := by omega
  rw [a1, a2]
  have e : x - x % 2 ^ j = x / 2 ^ j * 2 ^ j := by
    have := Nat.div_add_mod x (2 ^ j)
    rw [Nat.mul_comm] at this
    omega
  rw [e, show 2 ^ 64 - 1 - (2 ^ j - 1) = 2 ^ 64 - 2 ^ j by omega, show 2 ^ 64 - 2 ^ j = 2 ^ 64 - ((2 ^ j - 1) + 1) by omega]
  refine Nat.eq_of_testBit_eq fun i => ?_
  rw [Nat.testBit_and, Nat.testBit_two_pow_sub_succ (by omega), Nat.testBit_two_pow_sub_one, Nat.mul_comm, Nat.testBit_two_pow_mul, Nat.testBit_div_two_pow]
  by_cases hi : i < j
  · simp [hi, show ¬ j ≤ i by omega]
  · simp only [show j ≤ i by omega, hi, decide_true, decide_false, Bool.not_false, Bool.and_true, Bool.true_and]
    rw [show i - j + j = i by omega]
    by_cases h64 : i < 64
    · simp [h64]
    · have : x.testBit i = false := Nat.testBit_lt_two_pow (Nat.lt_of_lt_of_le hx (Nat.le_trans (by decide : 4096 ≤ 2 ^ 12) (Nat.pow_le_pow_right (by decide) (by omega))))
      simp [this]

theorem andNot_n (x : Nat) (hx : x < 4096) (j : Nat) (hj : j ≤ 3) : bits .andNot .i64 (x : Int) ((2 ^ j - 1 : Nat) : Int) = ((x - x % 2 ^ j : Nat) : Int) := by
  have e : bits .andNot .i64 (x : Int) ((2 ^ j - 1 : Nat) : Int) = IntKind.wrap .i64 ((BitVec.ofInt 64 (x : Int) &&& ~~~(BitVec.ofInt 64 ((2 ^ j - 1 : Nat) : Int))).toNat : Int) := rfl
  rw [e, andNot_bv x hx j hj, IntKind.wrap_i64]
  omega
end Go.Proofs.YtafkkicnfngpoaaGreat
