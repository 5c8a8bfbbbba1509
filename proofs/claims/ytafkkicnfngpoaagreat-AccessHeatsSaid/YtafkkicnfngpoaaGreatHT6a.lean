/- The law's own blocks beside the machine's. -/
import Derived.Test.YtafkkicnfngpoaaGreatHT5c
import Derived.OwnWalk
import Derived.Deep.LoopGhost
set_option linter.unusedVariables false
set_option linter.unusedSimpArgs false
set_option linter.unusedSectionVars false
namespace Go.Proofs.YtafkkicnfngpoaaGreat
open Go Go.RowKit Go.Lib Go.Proofs.YtafkkicnfngpoaaGreat.Dm

theorem Wm.upd {A : Nat → Prop} {cb gb : Nat} {g : Heap} {R S : Nat → Nat} {w w' : World} (h : Wm A cb gb g R S w) (hs : ∀ c, ¬ A c → c < w.heap.size → w'.heap[c]? = w.heap[c]?) (hz : w.heap.size ≤ w'.heap.size) : Wm A cb gb g R S w' := by
  obtain ⟨ι, rep, i1, i2, hf, hat, hno⟩ := h
  refine ⟨ι, ⟨rep.lt, fun b o hb => ?_, rep.inj, fun b c N hb => Nat.lt_of_lt_of_le (rep.dom b c N hb) hz⟩, i1, i2, hf, hat, hno⟩
  obtain ⟨c, N, e1, e2⟩ := rep.obj b o hb
  exact ⟨c, N, e1, OR.mono (Sub.refl ι) (hs c (hno b o c N hb e1) (rep.dom b c N e1)) e2⟩

theorem Wm.anti {A B : Nat → Prop} {cb gb : Nat} {g : Heap} {R S : Nat → Nat} {w : World} (h : Wm A cb gb g R S w) (hs : ∀ c, B c → A c) : Wm B cb gb g R S w := by
  obtain ⟨ι, rep, i1, i2, hf, hat, hno⟩ := h
  exact ⟨ι, rep, i1, i2, hf, hat, fun b o c N h1 h2 h3 => hno b o c N h1 h2 (hs c h3)⟩

/-- What lies ahead, and these blocks. -/
def Own (n : Nat) (l : List Nat) (c : Nat) : Prop := c < n ∨ c ∈ l

theorem Wm.alloc {n : Nat} {l : List Nat} {cb gb : Nat} {g : Heap} {R S : Nat → Nat} {w : World} (h : Wm (Own n l) cb gb g R S w) (o : Obj) : Wm (Own n (w.heap.size :: l)) cb gb g R S (w.alloc o) := by
  obtain ⟨ι, rep, i1, i2, hf, hat, hno⟩ := h
  have hsame : ∀ c, c < w.heap.size → (w.alloc o).heap[c]? = w.heap[c]? := fun c hc => by
    show (w.heap.push o)[c]? = _
    rw [Array.getElem?_push, if_neg (by omega)]
  have hz : (w.alloc o).heap.size = w.heap.size + 1 := by simp
  refine ⟨ι, ⟨rep.lt, fun b o' hb => ?_, rep.inj, fun b c N hb => by have := rep.dom b c N hb; omega⟩, i1, i2, hf, hat, fun b o' c N h1 h2 h3 => ?_⟩
  · obtain ⟨c, N, e1, e2⟩ := rep.obj b o' hb
    exact ⟨c, N, e1, OR.mono (Sub.refl ι) (hsame c (rep.dom b c N e1)) e2⟩
  · have hlt := rep.dom b c N h2
    rcases h3 with h3 | h3
    · exact hno b o' c N h1 h2 (.inl h3)
    · rcases List.mem_cons.1 h3 with h3 | h3
      · omega
      · exact hno b o' c N h1 h2 (.inr h3)

def arr (R : Nat → Nat) : Array Value := #[.int .i64 (R 0 : Nat), .int .i64 (R 1 : Nat), .int .i64 (R 2 : Nat), .int .i64 (R 3 : Nat)]

/-- The law's blocks, and the machine, whose counts are R and S; those of the law are R0 and S0. -/
structure Hx (W : World) (cb gb pb rb sb : Nat) (l : List Nat) (g : Heap) (R S R0 S0 : Nat → Nat) (w : World) : Prop where
  bl : Below W.heap.size W w
  pc : w.cell? ⟨pb, 0, none⟩ = some (.pointer (some ⟨cb, 0, none⟩))
  rc : w.heap[rb]? = some (.cells (arr R0) 28)
  sc : w.heap[sb]? = some (.cells (arr S0) 28)
  wm : Wm (Own W.heap.size l) cb gb g R S w
  inl : pb ∈ l ∧ rb ∈ l ∧ sb ∈ l
  ge : ∀ c ∈ l, W.heap.size ≤ c ∧ c < w.heap.size
  ne : pb ≠ rb ∧ pb ≠ sb ∧ rb ≠ sb

theorem cell_of_block {w : World} {cs : Array Value} {t : TypeId} {fr : Nat × Nat} {b j : Nat} {v : Value} (h : w.heap[b]? = some (.cells cs t fr)) (hj : cs[j]? = some v) : w.cell? ⟨b, j, none⟩ = some v := by
  simp only [World.cell?, h]; simpa using hj
theorem frozen_of_block {w : World} {cs : Array Value} {t : TypeId} {b j : Nat} (h : w.heap[b]? = some (.cells cs t)) : w.frozen? ⟨b, j, none⟩ = false := by
  simp only [World.frozen?, h]
  simp

section
variable {W : World} {cb gb pb rb sb : Nat} {l : List Nat} {g g' : Heap} {R S R' S' R0 S0 : Nat → Nat} {w w' : World}

theorem Hx.lt (h : Hx W cb gb pb rb sb l g R S R0 S0 w) : ∀ c, Own W.heap.size l c → c < w.heap.size := by
  intro c hc
  rcases hc with hc | hc
  · exact Nat.lt_of_lt_of_le hc h.bl.size
  · exact (h.ge c hc).2

theorem cell_same {w w' : World} {b : Nat} (h : w'.heap[b]? = w.heap[b]?) (j : Nat) : w'.cell? ⟨b, j, none⟩ = w.cell? ⟨b, j, none⟩ := by
  simp only [World.cell?, h]

theorem Hx.call (h : Hx W cb gb pb rb sb l g R S R0 S0 w) (hw : Wm (Own W.heap.size l) cb gb g' R' S' w') (hk : Kp (Own W.heap.size l) w w') : Hx W cb gb pb rb sb l g' R' S' R0 S0 w' where
  bl := ⟨hk.os.trans h.bl.os, hk.tape.trans h.bl.tape, hk.output.trans h.bl.output, Nat.le_trans h.bl.size hk.size, fun c hc => (hk.block c (.inl hc)).trans (h.bl.block c hc)⟩
  pc := by rw [cell_same (hk.block pb (.inr h.inl.1))]; exact h.pc
  rc := (hk.block rb (.inr h.inl.2.1)).trans h.rc
  sc := (hk.block sb (.inr h.inl.2.2)).trans h.sc
  wm := hw
  inl := h.inl
  ge c hc := ⟨(h.ge c hc).1, Nat.lt_of_lt_of_le (h.ge c hc).2 hk.size⟩
  ne := h.ne

theorem Hx.alloc (h : Hx W cb gb pb rb sb l g R S R0 S0 w) (o : Obj) : Hx W cb gb pb rb sb (w.heap.size :: l) g R S R0 S0 (w.alloc o) := by
  have hsame : ∀ c, c < w.heap.size → (w.alloc o).heap[c]? = w.heap[c]? := fun c hc => by
    show (w.heap.push o)[c]? = _
    rw [Array.getElem?_push, if_neg (by omega)]
  have hz : (w.alloc o).heap.size = w.heap.size + 1 := by simp
  refine ⟨⟨h.bl.os, h.bl.tape, h.bl.output, by have := h.bl.size; omega, fun c hc => ?_⟩, ?_, ?_, ?_, h.wm.alloc o, ⟨?_, ?_, ?_⟩, fun c hc => ?_, h.ne⟩
  · rw [hsame c (Nat.lt_of_lt_of_le hc h.bl.size)]; exact h.bl.block c hc
  · rw [cell_same (hsame pb (h.ge pb h.inl.1).2)]; exact h.pc
  · rw [hsame rb (h.ge rb h.inl.2.1).2]; exact h.rc
  · rw [hsame sb (h.ge sb h.inl.2.2).2]; exact h.sc
  · exact List.mem_cons_of_mem _ h.inl.1
  · exact List.mem_cons_of_mem _ h.inl.2.1
  · exact List.mem_cons_of_mem _ h.inl.2.2
  · rcases List.mem_cons.1 hc with rfl | hc
    · exact ⟨h.bl.size, by omega⟩
    · have := h.ge c hc; omega

/-- A block that is the law's alone is changed. -/
theorem Hx.upd (h : Hx W cb gb pb rb sb l g R S R0 S0 w) {b : Nat} (hb : b ∈ l) (hp : b ≠ pb) (hs : ∀ c, c ≠ b → w'.heap[c]? = w.heap[c]?) (hz : w'.heap.size = w.heap.size) (ho : w'.os = w.os ∧ w'.tape = w.tape ∧ w'.output = w.output) {R1 S1 : Nat → Nat}
    (hr : w'.heap[rb]? = some (.cells (arr R1) 28)) (hs1 : w'.heap[sb]? = some (.cells (arr S1) 28)) : Hx W cb gb pb rb sb l g R S R1 S1 w' where
  bl := ⟨ho.1.trans h.bl.os, ho.2.1.trans h.bl.tape, ho.2.2.trans h.bl.output, by have := h.bl.size; omega, fun c hc => by
    rw [hs c (fun e => by have := (h.ge b hb).1; omega)]; exact h.bl.block c hc⟩
  pc := by rw [cell_same (hs pb (Ne.symm hp))]; exact h.pc
  rc := hr
  sc := hs1
  wm := h.wm.upd (fun c hc _ => hs c (fun e => hc (.inr (e ▸ hb)))) (by omega)
  inl := h.inl
  ge c hc := by have := h.ge c hc; omega
  ne := h.ne

theorem Hx.less (h : Hx W cb gb pb rb sb l g R S R0 S0 w) : Hx W cb gb pb rb sb [pb, rb, sb] g R S R0 S0 w where
  bl := h.bl
  pc := h.pc
  rc := h.rc
  sc := h.sc
  wm := h.wm.anti (fun c hc => by
    rcases hc with hc | hc
    · exact .inl hc
    · simp only [List.mem_cons, List.not_mem_nil, or_false] at hc
      rcases hc with rfl | rfl | rfl
      · exact .inr h.inl.1
      · exact .inr h.inl.2.1
      · exact .inr h.inl.2.2)
  inl := by simp
  ge c hc := by
    simp only [List.mem_cons, List.not_mem_nil, or_false] at hc
    rcases hc with rfl | rfl | rfl
    · exact h.ge _ h.inl.1
    · exact h.ge _ h.inl.2.1
    · exact h.ge _ h.inl.2.2
  ne := h.ne

theorem Hx.drew (h : Hx W cb gb pb rb sb l g R S R0 S0 w) : Hx W cb gb pb rb sb l g R S R0 S0 w.drew :=
  ⟨⟨h.bl.os, h.bl.tape, h.bl.output, h.bl.size, h.bl.block⟩, h.pc, h.rc, h.sc, h.wm.upd (fun _ _ _ => rfl) (Nat.le_refl _), h.inl, h.ge, h.ne⟩

theorem Hx.below (h : Hx W cb gb pb rb sb l g R S R0 S0 w) (hb : Below w.heap.size w w') : Hx W cb gb pb rb sb l g R S R0 S0 w' :=
  h.call (h.wm.upd (fun c _ hc => hb.block c hc) hb.size) ⟨hb.os, hb.tape, hb.output, hb.size, fun c hc => hb.block c (h.lt c hc)⟩

theorem heap_set (w : World) (b j : Nat) (v : Value) (c : Nat) (h : c ≠ b) : (w.setCell ⟨b, j, none⟩ v).heap[c]? = w.heap[c]? := by
  simp [World.setCell, Array.getElem?_modify, Ne.symm h]
theorem size_set (w : World) (b j : Nat) (v : Value) : (w.setCell ⟨b, j, none⟩ v).heap.size = w.heap.size := by
  simp [World.setCell]

theorem Hx.set (h : Hx W cb gb pb rb sb l g R S R0 S0 w) {b : Nat} (hb : b ∈ l) (hp : b ≠ pb ∧ b ≠ rb ∧ b ≠ sb) (j : Nat) (v : Value) : Hx W cb gb pb rb sb l g R S R0 S0 (w.setCell ⟨b, j, none⟩ v) :=
  h.upd hb hp.1 (fun c hc => heap_set w b j v c hc) (size_set w b j v) ⟨rfl, rfl, rfl⟩ ((heap_set w b j v rb (Ne.symm hp.2.1)).trans h.rc) ((heap_set w b j v sb (Ne.symm hp.2.2)).trans h.sc)

/-- A count of the law's is one more. -/
def inc (q : Nat) (R : Nat → Nat) (x : Nat) : Nat := R x + (if x = q then 1 else 0)

theorem arr_set {w : World} {b q : Nat} {R : Nat → Nat} (hq : q < 4) (h : w.heap[b]? = some (.cells (arr R) 28)) (v : Value) (hv : v = .int .i64 ((R q + 1 : Nat) : Int)) : (w.setCell ⟨b, q, none⟩ v).heap[b]? = some (.cells (arr (inc q R)) 28) := by
  subst hv
  have hlt : b < w.heap.size := by
    by_cases hlt : b < w.heap.size
    · exact hlt
    · rw [Array.getElem?_eq_none (by omega)] at h; cases h
  rw [Array.getElem?_eq_getElem hlt] at h
  simp only [Option.some.injEq] at h
  simp only [World.setCell, Array.getElem?_modify, if_true, Array.getElem?_eq_getElem hlt, h, Option.map_some, Option.some.injEq, Option.isSome_none, Bool.false_eq_true, if_false]
  match q, hq with
  | 0, _ => simp [arr, inc]
  | 1, _ => simp [arr, inc]
  | 2, _ => simp [arr, inc]
  | 3, _ => simp [arr, inc]

theorem Hx.incR (h : Hx W cb gb pb rb sb l g R S R0 S0 w) {q : Nat} (hq : q < 4) {v : Value} (hv : v = .int .i64 ((R0 q + 1 : Nat) : Int)) : Hx W cb gb pb rb sb l g R S (inc q R0) S0 (w.setCell ⟨rb, q, none⟩ v) :=
  h.upd h.inl.2.1 (Ne.symm h.ne.1) (fun c hc => heap_set w rb q v c hc) (size_set w rb q v) ⟨rfl, rfl, rfl⟩ (arr_set hq h.rc v hv) ((heap_set w rb q v sb (Ne.symm h.ne.2.2)).trans h.sc)
theorem Hx.incS (h : Hx W cb gb pb rb sb l g R S R0 S0 w) {q : Nat} (hq : q < 4) {v : Value} (hv : v = .int .i64 ((S0 q + 1 : Nat) : Int)) : Hx W cb gb pb rb sb l g R S R0 (inc q S0) (w.setCell ⟨sb, q, none⟩ v) :=
  h.upd h.inl.2.2 (Ne.symm h.ne.2.1) (fun c hc => heap_set w sb q v c hc) (size_set w sb q v) ⟨rfl, rfl, rfl⟩ ((heap_set w sb q v rb h.ne.2.2).trans h.rc) (arr_set hq h.sc v hv)

theorem Hx.rcell (h : Hx W cb gb pb rb sb l g R S R0 S0 w) {q : Nat} (hq : q < 4) : w.cell? ⟨rb, q, none⟩ = some (.int .i64 (R0 q : Nat)) := by
  refine cell_of_block h.rc ?_
  match q, hq with
  | 0, _ => rfl
  | 1, _ => rfl
  | 2, _ => rfl
  | 3, _ => rfl
theorem Hx.scell (h : Hx W cb gb pb rb sb l g R S R0 S0 w) {q : Nat} (hq : q < 4) : w.cell? ⟨sb, q, none⟩ = some (.int .i64 (S0 q : Nat)) := by
  refine cell_of_block h.sc ?_
  match q, hq with
  | 0, _ => rfl
  | 1, _ => rfl
  | 2, _ => rfl
  | 3, _ => rfl
end
theorem rw_store {pg : Nat} (h : pg < 3) (R S : Nat → Nat) : rd' pg 2 R = R ∧ wr' pg 2 S = inc pg S := by
  refine ⟨funext fun q => ?_, funext fun q => ?_⟩
  · simp [rd']
  · unfold wr' inc
    by_cases e : q = pg
    · subst e; simp [h]
    · simp [e]
theorem rw_read {pg wt : Nat} (h : pg < 3) (hw : wt ≠ 2) (R S : Nat → Nat) : rd' pg wt R = inc pg R ∧ wr' pg wt S = S := by
  refine ⟨funext fun q => ?_, funext fun q => ?_⟩
  · unfold rd' inc
    by_cases e : q = pg
    · subst e; simp [h, hw]
    · simp [e]
  · simp [wr', hw]
theorem rw_none {pg wt : Nat} (h : ¬ pg < 3) (R S : Nat → Nat) : rd' pg wt R = R ∧ wr' pg wt S = S := by
  refine ⟨funext fun q => ?_, funext fun q => ?_⟩
  · simp [rd', h]
  · simp [wr', h]
theorem rw_le {pg wt k : Nat} {R S : Nat → Nat} (h : ∀ q, R q + S q ≤ k) (q : Nat) : rd' pg wt R q + wr' pg wt S q ≤ k + 1 := by
  have := h q
  unfold rd' wr'
  by_cases e : wt = 2
  · have : ¬ (q = pg ∧ pg < 3 ∧ wt ≠ 2) := fun x => x.2.2 e
    rw [if_neg this]
    split <;> omega
  · have : ¬ (q = pg ∧ pg < 3 ∧ wt = 2) := fun x => e x.2.2
    rw [if_neg this]
    split <;> omega
theorem rw_three {pg wt : Nat} {R S : Nat → Nat} (h1 : R 3 = 0) (h2 : S 3 = 0) : rd' pg wt R 3 = 0 ∧ wr' pg wt S 3 = 0 := by
  unfold rd' wr'
  rw [if_neg (by omega), if_neg (by omega)]
  exact ⟨h1, h2⟩
end Go.Proofs.YtafkkicnfngpoaaGreat
