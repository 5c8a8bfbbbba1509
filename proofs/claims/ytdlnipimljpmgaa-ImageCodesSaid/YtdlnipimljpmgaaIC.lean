import Derived.Test.YtdlnipimljpmgaaIW1
import Derived.Lib.SlBytesConst
import Derived.Lib.FrozenHead2
set_option linter.unusedVariables false
set_option linter.unusedSimpArgs false
set_option linter.unusedSectionVars false
set_option linter.unnecessarySimpa false
namespace Go.Proofs.Ytdlnipimljpmgaa
open Go Go.RowKit Go.Im Go.Lib

/-- A row with its mark: one place behind the last is frozen. -/
theorem conv32 (w : World) (g n c : Nat) (cs : Array Value) (t : Nat) (h : w.heap[g]? = some (.cells cs t)) :
    Sem.run Try.prog (convert 32 32 (.slice (some ⟨g, 0, none⟩) n c)) w = .ok (.slice (some ⟨g, 0, none⟩) n c) (w.freeze ⟨g, cs.size, none⟩ 1) := by
  have hsh : w.shape? g = some (t, cs.size) := by unfold World.shape?; rw [h]
  simp [convert, run_underlying Try.underlying32, run_underlying Try.underlying5, markStringish, hsh]

theorem conv_first (w : World) (D : Obj) (C : Array Value) (n c : Nat) : Sem.run Try.prog (convert 32 32 (.slice (some ⟨w.heap.size, 0, none⟩) n c)) ((w.alloc (.cells C 5)).alloc D).drew = .ok (.slice (some ⟨w.heap.size, 0, none⟩) n c) ((w.alloc (.cells C 5 (C.size, C.size + 1))).alloc D).drew := by
  have h : (((w.alloc (.cells C 5)).alloc D).drew).heap[w.heap.size]? = some (.cells C 5) := by
    show ((w.heap.push _).push D)[w.heap.size]? = _
    rw [Array.getElem?_push, if_neg (by simp), Array.getElem?_push, if_pos rfl]
  rw [conv32 _ _ n c C 5 h]
  congr 1
  unfold World.freeze
  rw [if_neg (by decide)]
  have key : ∀ A B : Array Obj, A = B → ({ ((w.alloc (.cells C 5)).alloc D).drew with heap := A } : World) = { ((w.alloc (.cells C 5 (C.size, C.size + 1))).alloc D).drew with heap := B } := by
    rintro A B rfl
    rfl
  refine key (((w.heap.push (.cells C 5)).push D).modify w.heap.size _) ((w.heap.push (.cells C 5 (C.size, C.size + 1))).push D) ?_
  apply Array.ext
  · simp
  · intro i h1 h2
    simp only [Array.getElem_modify, Array.getElem_push]
    simp at h1
    by_cases h : w.heap.size = i
    · subst h
      simp
    · by_cases hi : i < w.heap.size
      · simp [h, hi, Nat.lt_succ_of_lt hi]
      · have : i = w.heap.size + 1 := by omega
        subst this
        simp

theorem two1 {w : World} {C : Array Value} {t : Nat} {fr : Nat × Nat} {o : Obj} (cs : List Value) (h : C = cs.toArray) : ∀ j u, cs[j]? = some u → (((w.alloc (.cells C t fr)).alloc o).drew).cell? ((⟨w.heap.size, 0, none⟩ : Addr).add j) = some u := by
  intro j u hj
  subst h
  rw [Addr.add_lit]
  have h1 : (((w.alloc (.cells cs.toArray t fr)).alloc o).drew).heap[w.heap.size]? = some (.cells cs.toArray t fr) := by
    show ((w.heap.push _).push o)[w.heap.size]? = _
    rw [Array.getElem?_push, if_neg (by simp), Array.getElem?_push, if_pos rfl]
  simp only [World.cell?, h1]
  simpa using hj
theorem two2 {w : World} {C : Array Value} {t : Nat} {fr : Nat × Nat} {o : Obj} (cs : List Value) (h : C = cs.toArray) : ∀ j u, cs[j]? = some u → (((w.alloc o).alloc (.cells C t fr)).drew).cell? ((⟨w.heap.size + 1, 0, none⟩ : Addr).add j) = some u := by
  intro j u hj
  subst h
  rw [Addr.add_lit]
  have h1 : (((w.alloc o).alloc (.cells cs.toArray t fr)).drew).heap[w.heap.size + 1]? = some (.cells cs.toArray t fr) := by
    show ((w.heap.push o).push _)[w.heap.size + 1]? = _
    rw [Array.getElem?_push, if_pos (by simp)]
  simp only [World.cell?, h1]
  simpa using hj
theorem two_one {a b : Int} : ∀ u ∈ [Value.int .u8 a, .int .u8 b], u.oneCell' = true := by
  intro u hu
  simp only [List.mem_cons, List.not_mem_nil, or_false] at hu
  rcases hu with rfl | rfl <;> rfl
end Go.Proofs.Ytdlnipimljpmgaa
