/- The quiet operations, one by one (third part): conversions, slices. -/
import Derived.Test.YtndbccpaccflcaaGreatDmQ2
set_option linter.unusedVariables false
set_option linter.unusedSimpArgs false
set_option linter.unusedSectionVars false
namespace Go.Proofs.YtndbccpaccflcaaGreat.Dm
open Go

theorem bytesOf_spec (r : Row) : ∀ (k o : Nat) (l : List Nat), bytesOf r o k = some l → r.read o k = some (l.map fun a => .i .u8 (.ofNat a)) ∧ (∀ a ∈ l, a < 256) ∧ l.length = k
  | 0, o, l, h => by simp only [bytesOf, Option.some.injEq] at h; subst h; simp [Row.read]
  | k + 1, o, l, h => by
    simp only [bytesOf] at h
    split at h
    · rename_i a ha
      split at h
      · rename_i l' hl
        cases hb : Nat.blt a 256 with
        | false => rw [hb] at h; cases h
        | true =>
          rw [hb] at h; simp only [cnd_true, Option.some.injEq] at h; subst h
          obtain ⟨e1, e2, e3⟩ := bytesOf_spec r k (Nat.succ o) l' hl
          refine ⟨by simp [Row.read, ha, e1], ?_, by simp [e3]⟩
          intro b hb'
          rcases List.mem_cons.1 hb' with rfl | hb'
          · exact Nat.le_of_ble_eq_true hb
          · exact e2 b hb'
      · cases h
    · cases h

theorem Rs.bytes {ι : Io} : ∀ {l : List Nat} {vs : List Value}, Rs ι (l.map fun a => .i .u8 (.ofNat a)) vs → vs = l.map fun (a : Nat) => Value.int .u8 (a : Int)
  | [], [], _ => rfl
  | [], _ :: _, h => h.elim
  | _ :: _, [], h => h.elim
  | a :: l, v :: vs, ⟨h1, h2⟩ => by
    have h1' : v = .int .u8 (a : Int) := h1
    rw [h1', Rs.bytes h2]; rfl

theorem push_bytes (P : Program) (w : World) : ∀ (l : List Nat) (s : ByteArray),
    (forIn (m := Sem) (l.map fun (a : Nat) => Value.int .u8 (a : Int)) s (fun (c : Value) (s : ByteArray) => do
      let .int .u8 n := c | stuck "bytesToString: byte expected"
      pure (ForInStep.yield (s.push (UInt8.ofNat n.toNat))))).run P w = .ok ⟨s.data ++ (l.map UInt8.ofNat).toArray⟩ w
  | [], s => by simp
  | a :: l, s => by
    rw [List.map_cons, List.forIn_cons, Sem.run_bind]
    simp only [Sem.run_pure, Result.andThen_ok]
    rw [push_bytes P w l (s.push (UInt8.ofNat (a : Int).toNat))]
    simp [ByteArray.push]

theorem bytesToString_run {P : Program} {w : World} {a : Addr} {n c : Nat} {vs : Array Value} {l : List Nat} (h : (loadCells a n).run P w = .ok vs w)
    (hv : vs.toList = l.map fun (a : Nat) => Value.int .u8 (a : Int)) : (Conv.bytesToString (.slice (some a) n c)).run P w = .ok (.string ⟨(l.map UInt8.ofNat).toArray⟩) w := by
  have key := push_bytes P w l .empty
  rw [← hv, Array.forIn_toList] at key
  unfold Conv.bytesToString
  simp only [Sem.run_bind, h, Result.andThen_ok]
  erw [key]
  have e : ByteArray.empty.data = #[] := rfl
  simp [e]

theorem upto_run {x : Operand} {R : Operand → Value} {k : IntKind} {j n : Nat} (hx : R x = .int k (j : Int)) (hj : j ≤ n) (c : BoundsCode) (P : Program) (w : World) :
    (Instr.sliceBound (R x) n c).run P w = .ok j w := by
  simp [Instr.sliceBound, hx, asIntOf, hj]

theorem bound_of {ι : Io} {ρ : Env} {R : Operand → Value} (he : ER ι ρ R) {y : Operand} {n j : Nat} (h : ((evI ρ y).bind fun i => upto i n) = some j) : ∃ k, R y = .int k (j : Int) ∧ j ≤ n := by
  obtain ⟨i, h1, h2⟩ := Option.bind_eq_some_iff.1 h
  obtain ⟨k, h3⟩ := evI_rel he h1
  obtain ⟨rfl, h4⟩ := upto_spec h2
  exact ⟨k, h3, h4⟩

section
variable {P : Program} {ty : Ty} (hty : TyOk P ty) {ι : Io} {ρ : Env} {R : Operand → Value} (he : ER ι ρ R) {w : World} {h : Heap} (rep : Rep ι w h) {o : Oper} {v : AV}
include hty he rep

theorem q_convert {src dst : TypeId} {x : Operand} (ho : o.op = .convert src dst x) (hq : qop ty ρ h (.convert src dst x) = some v) : QOk P ι h w R o v := by
  simp only [qop] at hq
  split at hq
  · rename_i ts hts
    obtain ⟨i1, d1, s1⟩ := hty.get hts
    split at hq
    · rename_i td htd
      obtain ⟨i2, d2, s2⟩ := hty.get htd
      split at hq
      · -- whole number to whole number
        rename_i k k' n hk hx
        have hd := tk_int (s2.k ▸ hk); subst hd
        simp only [Option.some.injEq] at hq; subst hq
        have hr : R x = .int k' n := evS_rel he hx
        refine .of (V := .int k (k.wrap n)) ?_ (by rw [wr_eq]; rfl)
        simp [execOp, ho, convert, s1.r_und, s2.r_und, hr, Conv.intToInt]
      · rename_i k' n hk hx
        have hd := tk_f64 (s2.k ▸ hk); subst hd
        simp only [Option.some.injEq] at hq; subst hq
        have hr : R x = .int k' n := evS_rel he hx
        refine .of (V := .float .f64 (FloatKind.f64.nearest n)) ?_ rfl
        simp [execOp, ho, convert, s1.r_und, s2.r_und, hr, Conv.intToFloat]
      · rename_i k b hk hx
        have hd := tk_int (s2.k ▸ hk); subst hd
        have hr : R x = .float .f64 b := evS_rel he hx
        split at hq
        · rename_i n hn
          cases hb : (ile k.min n && ile n k.max) with
          | false => rw [hb] at hq; cases hq
          | true =>
            rw [hb] at hq; simp only [cnd_true, Option.some.injEq] at hq; subst hq
            rw [Bool.and_eq_true, ile_eq, ile_eq, decide_eq_true_iff, decide_eq_true_iff] at hb
            refine .of (V := .int k n) ?_ rfl
            simp [execOp, ho, convert, s1.r_und, s2.r_und, hr, Conv.floatToInt, hn, hb.1, hb.2]
        · cases hq
      · rename_i l hk hx
        have hd := tk_str (s2.k ▸ hk); subst hd
        simp only [Option.some.injEq] at hq; subst hq
        obtain ⟨s, h1, h2⟩ := evS_rel he hx
        refine .of (V := .string s) ?_ ⟨s, rfl, h2⟩
        simp [execOp, ho, convert, s1.r_und, s2.r_und, h1]
      · rename_i hk hx
        have hd := tk_str (s2.k ▸ hk); subst hd
        have hr : R x = .slice none 0 0 := evS_rel he hx
        split at hq
        · rename_i e hke
          have hd := tk_sl (s1.k ▸ hke); subst hd
          split at hq
          · rename_i te hte
            obtain ⟨i3, d3, s3⟩ := hty.get hte
            split at hq
            · rename_i hk3
              have hd := tk_int (s3.k ▸ hk3); subst hd
              simp only [Option.some.injEq] at hq; subst hq
              refine .of (V := .string .empty) ?_ ⟨.empty, rfl, rfl⟩
              simp [execOp, ho, convert, s1.r_und, s2.r_und, s3.r_und, hr, Conv.bytesToString]
            · cases hq
          · cases hq
        · cases hq
      · rename_i b off len cap z ex hk hx
        have hd := tk_str (s2.k ▸ hk); subst hd
        obtain ⟨cb, N, o', cc, h1, h2, h3⟩ := evS_rel he hx
        split at hq
        · rename_i e hke
          have hd := tk_sl (s1.k ▸ hke); subst hd
          split at hq
          · rename_i te hte
            obtain ⟨i3, d3, s3⟩ := hty.get hte
            split at hq
            · rename_i hk3
              have hd := tk_int (s3.k ▸ hk3); subst hd
              split at hq
              · rename_i r ro hb
                split at hq
                · rename_i l hl
                  simp only [Option.some.injEq] at hq; subst hq
                  obtain ⟨e1, e2, e3⟩ := bytesOf_spec r len off l hl
                  have hrd : ∃ vs : Array Value, (loadCells ⟨cb, o', none⟩ len).run P w = .ok vs w ∧ vs.toList = l.map fun (a : Nat) => Value.int .u8 (a : Int) := by
                    by_cases hz : len = 0
                    · subst hz
                      have : l = [] := List.eq_nil_of_length_eq_zero e3
                      subst this
                      exact ⟨#[], by simp [loadCells, loadCellsFrom], rfl⟩
                    · have hoff : o' = off := by
                        obtain ⟨k1, k2, k3⟩ := h3
                        cases ex with
                        | true => exact (k2 rfl).1
                        | false => exact ((k3 rfl).2.1).resolve_left (by omega)
                      subst hoff
                      obtain ⟨vs, f1, f2⟩ := read_of (P := P) rep hb h1 e1
                      exact ⟨vs, f1, Rs.bytes f2⟩
                  obtain ⟨vs, f1, f2⟩ := hrd
                  have := bytesToString_run (c := cc) f1 f2
                  refine .of (V := .string ⟨(l.map UInt8.ofNat).toArray⟩) ?_ ⟨_, rfl, ?_⟩
                  · simp [execOp, ho, convert, s1.r_und, s2.r_und, s3.r_und, h2, this]
                  · simp only [List.map_map]
                    apply List.ext_getElem (by simp)
                    intro n hn hn'
                    have := e2 l[n] (List.getElem_mem _)
                    simp; omega
                · cases hq
              · cases hq
            · cases hq
          · cases hq
        · cases hq
      · rename_i e b off len cap z ex hk hx
        have hd := tk_sl (s2.k ▸ hk); subst hd
        obtain ⟨cb, N, o', cc, h1, h2, h3⟩ := evS_rel he hx
        split at hq
        · rename_i te hte
          obtain ⟨i3, d3, s3⟩ := hty.get hte
          split at hq
          · rename_i hk3
            have hd := tk_int (s3.k ▸ hk3); subst hd
            split at hq
            · rename_i r ro hb
              cases hsd : Nat.beq src dst with
              | false => rw [hsd] at hq; cases hq
              | true =>
                rw [hsd] at hq; simp only [cnd_true, Option.some.injEq] at hq; subst hq
                obtain rfl : src = dst := Nat.eq_of_beq_eq_true hsd
                obtain ⟨cb', N', g1, cs, el, fr, g2, g3, g4, g5, g6⟩ := rep.obj b _ hb
                rw [h1] at g1; simp only [Option.some.injEq, Prod.mk.injEq] at g1
                obtain ⟨rfl, rfl⟩ := g1
                have hu : d1 = .slice e := by have := s1.und; rw [s2.und] at this; exact (Option.some.inj this).symm
                subst hu
                have hlt : cb < w.heap.size := rep.dom b cb N h1
                refine ⟨.slice (some ⟨cb, o', none⟩) len cc, w.freeze ⟨cb, N, none⟩ 1, ?_, ⟨cb, N, o', cc, h1, rfl, h3⟩, ?_⟩
                · simp [execOp, ho, convert, s1.r_und, s3.r_und, h2, markStringish, World.shape?, g2, g3]
                · obtain ⟨f, hf, hfc⟩ : ∃ f : Obj → Obj, (w.freeze ⟨cb, N, none⟩ 1).heap = w.heap.modify cb f ∧
                      ∀ c el lo hi, f (.cells c el (lo, hi)) = .cells c el (if lo == hi then (N, N + 1) else (min lo N, max hi (N + 1))) := by
                    unfold World.freeze
                    rw [if_neg (by decide)]
                    dsimp only
                    refine ⟨_, rfl, ?_⟩
                    intro c el lo hi
                    rfl
                  have hother : ∀ c, c ≠ cb → (w.freeze ⟨cb, N, none⟩ 1).heap[c]? = w.heap[c]? := by
                    intro c hc; rw [hf, Array.getElem?_modify, if_neg (by omega)]
                  refine ⟨by rw [hf]; simp, rfl, rfl, rfl, ?_, ?_⟩
                  · intro c hc; apply hother
                    intro hcc; subst hcc
                    exact hc b _ N hb h1
                  · intro ι' h' r'
                    refine ⟨r'.lt, ?_, r'.inj, fun b c M hbc => by rw [hf]; simpa using r'.dom b c M hbc⟩
                    intro b' ob hob
                    obtain ⟨c, M, k1, k2⟩ := r'.obj b' ob hob
                    refine ⟨c, M, k1, ?_⟩
                    by_cases hc : c = cb
                    · subst hc
                      cases ob with
                      | map es ck => obtain ⟨ces, j1, _⟩ := k2; rw [g2] at j1; cases j1
                      | it m since seen st => obtain ⟨m', j1, _⟩ := k2; rw [g2] at j1; cases j1
                      | cells r2 ro2 =>
                        obtain ⟨cs2, el2, fr2, j1, j2, j3, j4, j5⟩ := k2
                        rw [g2] at j1
                        simp only [Option.some.injEq, Obj.cells.injEq] at j1
                        obtain ⟨rfl, rfl, rfl⟩ := j1
                        obtain ⟨lo, hi⟩ := fr
                        refine ⟨cs, el, if lo == hi then (N, N + 1) else (min lo N, max hi (N + 1)), ?_, j2, j3, j4, ?_⟩
                        · rw [hf, Array.getElem?_modify, if_pos rfl, g2, Option.map_some, hfc]
                        · intro hro
                          have := j5 hro
                          simp only [] at this
                          by_cases hlh : lo = hi
                          · simp [hlh]; omega
                          · simp [hlh]; omega
                    · exact OR.mono (Sub.refl ι') (hother c hc) k2
            · cases hq
          · cases hq
        · cases hq
      · cases hq
    · cases hq
  · cases hq

end
end Go.Proofs.YtndbccpaccflcaaGreat.Dm
