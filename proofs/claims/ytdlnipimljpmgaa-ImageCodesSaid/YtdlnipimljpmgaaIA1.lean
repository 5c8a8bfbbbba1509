/- A byte more in a page: what its sum is. -/
import Derived.Test.YtdlnipimljpmgaaIF5
set_option linter.unusedVariables false
set_option linter.unusedSimpArgs false
set_option linter.unusedSectionVars false
set_option linter.unnecessarySimpa false
namespace Go.Proofs.Ytdlnipimljpmgaa
open Go Go.RowKit Go.Im Go.Lib Go.Fl

theorem fromLe_set : ∀ (l : List Int) (i : Nat) (u x : Int), l[i]? = some x → fromLe (l.set i u) = fromLe l + (u - x) * 256 ^ i
  | [], i, u, x, h => by simp at h
  | b :: l, 0, u, x, h => by
    simp at h; subst h
    simp only [List.set_cons_zero, fromLe]
    rw [Int.pow_zero]; omega
  | b :: l, i + 1, u, x, h => by
    have ih := fromLe_set l i u x (by simpa using h)
    simp only [List.set_cons_succ, fromLe, ih]
    rw [Int.pow_succ, Int.mul_add, ← Int.mul_assoc (u - x), Int.mul_comm 256 ((u - x) * 256 ^ i)]
    omega

theorem fromLe_append : ∀ (l m : List Int), fromLe (l ++ m) = fromLe l + 256 ^ l.length * fromLe m
  | [], m => by simp [fromLe]
  | b :: l, m => by
    have ih := fromLe_append l m
    simp only [List.cons_append, fromLe, ih, List.length_cons]
    rw [Int.pow_succ, Int.mul_add, ← Int.mul_assoc, Int.mul_comm 256 (256 ^ l.length)]
    omega

def lo (l : List Int) (j : Nat) : Int := fromLe ((l.drop (8 * j)).take 4)
def hi (l : List Int) (j : Nat) : Int := fromLe ((l.drop (8 * j + 4)).take 4)

theorem four_lt {l : List Int} (h : Byte l) (m : Nat) : 0 ≤ fromLe ((l.drop m).take 4) ∧ fromLe ((l.drop m).take 4) < 4294967296 := by
  have h1 := fromLe_lt ((l.drop m).take 4) (fun x hx => h x (List.mem_of_mem_drop (List.mem_of_mem_take hx)))
  refine ⟨h1.1, Int.lt_of_lt_of_le h1.2 ?_⟩
  have h2 : ((l.drop m).take 4).length ≤ 4 := by simp; omega
  have : (256 : Nat) ^ ((l.drop m).take 4).length ≤ 256 ^ 4 := Nat.pow_le_pow_right (by decide) h2
  have e : ((256 : Int) ^ ((l.drop m).take 4).length) = ((256 ^ ((l.drop m).take 4).length : Nat) : Int) := by simp
  rw [e]
  omega

theorem wd_split {l : List Int} (h : Byte l) (j : Nat) (hj : 8 * j + 4 ≤ l.length) : wd l j % 4294967296 = lo l j ∧ wd l j / 4294967296 = hi l j := by
  have e : (l.drop (8 * j)).take 8 = (l.drop (8 * j)).take 4 ++ (l.drop (8 * j + 4)).take 4 := by
    rw [show 8 = 4 + 4 from rfl, List.take_add, List.drop_drop]
  have hl : ((l.drop (8 * j)).take 4).length = 4 := by simp; omega
  have h1 := four_lt h (8 * j)
  have h2 := four_lt h (8 * j + 4)
  have e2 : wd l j = lo l j + 4294967296 * hi l j := by
    unfold wd lo hi
    rw [e, fromLe_append, hl]
    rfl
  have h1' : 0 ≤ lo l j ∧ lo l j < 4294967296 := h1
  rw [e2]
  omega

theorem part_set (l : List Int) (k m : Nat) (u x : Int) (hx : l[k]? = some x) : fromLe (((l.set k u).drop m).take 4) = fromLe ((l.drop m).take 4) + (if m ≤ k ∧ k < m + 4 then (u - x) * 256 ^ (k - m) else 0) := by
  rw [List.drop_set]
  split
  · rename_i h
    rw [if_neg (by omega)]; omega
  · rename_i h
    rw [List.take_set]
    by_cases hk : k < m + 4
    · rw [if_pos ⟨by omega, hk⟩]
      refine fromLe_set _ _ _ _ ?_
      rw [List.getElem?_take, if_pos (by omega), List.getElem?_drop]
      rw [show m + (k - m) = k by omega]
      exact hx
    · rw [if_neg (by omega), List.set_eq_of_length_le]
      · omega
      · simp; omega

theorem rot_add (r : Nat) (a b c d : Int) : rotRe r (a + c) (b + d) = rotRe r a b + rotRe r c d ∧ rotIm r (a + c) (b + d) = rotIm r a b + rotIm r c d := by
  unfold rotRe rotIm
  match r with
  | 0 => exact ⟨rfl, rfl⟩
  | 1 => constructor <;> simp only [] <;> omega
  | 2 => constructor <;> simp only [] <;> omega
  | _ + 3 => constructor <;> simp only [] <;> omega

theorem rot_nz {r : Nat} {a b : Int} (h : ¬ (a = 0 ∧ b = 0)) : ¬ (rotRe r a b = 0 ∧ rotIm r a b = 0) := by
  unfold rotRe rotIm
  match r with
  | 0 => simp only []; omega
  | 1 => simp only []; omega
  | 2 => simp only []; omega
  | _ + 3 => simp only []; omega

theorem rot_zero (r : Nat) : rotRe r 0 0 = 0 ∧ rotIm r 0 0 = 0 := by
  unfold rotRe rotIm
  match r with
  | 0 => exact ⟨rfl, rfl⟩
  | 1 => exact ⟨rfl, rfl⟩
  | 2 => exact ⟨rfl, rfl⟩
  | _ + 3 => exact ⟨rfl, rfl⟩

theorem byte_set {l : List Int} (h : Byte l) (k : Nat) (u : Int) (hu : 0 ≤ u ∧ u < 256) : Byte (l.set k u) := fun x hx => by
  rcases List.mem_or_eq_of_mem_set hx with hx | rfl
  · exact h x hx
  · omega

/-- What a byte's change adds. -/
def dRe (k : Nat) (d : Int) : Int := if k % 8 < 4 then d * 256 ^ (k % 4) else 0
def dIm (k : Nat) (d : Int) : Int := if k % 8 < 4 then 0 else d * 256 ^ (k % 4)

theorem dg_set {l : List Int} (h : Byte l) (hl : l.length = 4096) (k : Nat) (hk : k < 4096) (u x : Int) (hu : 0 ≤ u ∧ u < 256) (hx : l[k]? = some x) : ∀ j, j ≤ 512 →
    (dg (l.set k u) j).1 = (dg l j).1 + (if k / 8 < j then rotRe (k / 8 % 4) (dRe k (u - x)) (dIm k (u - x)) else 0) ∧
    (dg (l.set k u) j).2 = (dg l j).2 + (if k / 8 < j then rotIm (k / 8 % 4) (dRe k (u - x)) (dIm k (u - x)) else 0)
  | 0, _ => by simp [dg]
  | j + 1, hj => by
    obtain ⟨i1, i2⟩ := dg_set h hl k hk u x hu hx j (by omega)
    have hb := byte_set h k u hu
    obtain ⟨s1, s2⟩ := wd_split h j (by omega)
    obtain ⟨t1, t2⟩ := wd_split hb j (by simp; omega)
    have p1 := part_set l k (8 * j) u x hx
    have p2 := part_set l k (8 * j + 4) u x hx
    simp only [dg]
    rw [s1, s2, t1, t2, i1, i2]
    have q1 : lo (l.set k u) j = lo l j + (if k / 8 = j then dRe k (u - x) else 0) := by
      unfold lo; rw [p1]
      unfold dRe
      by_cases hc : k / 8 = j
      · rw [if_pos hc]
        by_cases h4 : k % 8 < 4
        · rw [if_pos h4, if_pos (by omega), show k - 8 * j = k % 4 by omega]
        · rw [if_neg h4, if_neg (by omega)]
      · rw [if_neg hc, if_neg (by omega)]
    have q2 : hi (l.set k u) j = hi l j + (if k / 8 = j then dIm k (u - x) else 0) := by
      unfold hi; rw [p2]
      unfold dIm
      by_cases hc : k / 8 = j
      · rw [if_pos hc]
        by_cases h4 : k % 8 < 4
        · rw [if_pos h4, if_neg (by omega)]
        · rw [if_neg h4, if_pos (by omega), show k - (8 * j + 4) = k % 4 by omega]
      · rw [if_neg hc, if_neg (by omega)]
    rw [q1, q2, (rot_add _ _ _ _ _).1, (rot_add _ _ _ _ _).2]
    by_cases hc : k / 8 = j
    · subst hc
      have e1 : ¬ (k / 8 < k / 8) := by omega
      have e2 : k / 8 < k / 8 + 1 := by omega
      simp only [e1, e2, if_true, if_false]
      constructor <;> omega
    · rw [if_neg hc, if_neg hc, (rot_zero _).1, (rot_zero _).2]
      by_cases hlt : k / 8 < j
      · have e2 : k / 8 < j + 1 := by omega
        simp only [hlt, e2, if_true]; constructor <;> omega
      · have e2 : ¬ k / 8 < j + 1 := by omega
        simp only [hlt, e2, if_false]; constructor <;> omega

/-- The turned byte's share of the sum. -/
def wRe (f : Lf) (k : Nat) (d : Int) : Int := rotRe (f.page.toNat % 4) (rotRe (k / 8 % 4) (dRe k d) (dIm k d)) (rotIm (k / 8 % 4) (dRe k d) (dIm k d))
def wIm (f : Lf) (k : Nat) (d : Int) : Int := rotIm (f.page.toNat % 4) (rotRe (k / 8 % 4) (dRe k d) (dIm k d)) (rotIm (k / 8 % 4) (dRe k d) (dIm k d))

theorem sum_set (L : List Lf) (f : Lf) (k : Nat) (u x kd : Int) (wr : Bool) (h : Byte f.bytes) (hl : f.bytes.length = 4096) (hk : k < 4096) (hu : 0 ≤ u ∧ u < 256) (hx : f.bytes[k]? = some x) :
    smRe (L ++ [⟨f.page, kd, wr, f.bytes.set k u⟩]) = smRe (L ++ [f]) + wRe f k (u - x) ∧ smIm (L ++ [⟨f.page, kd, wr, f.bytes.set k u⟩]) = smIm (L ++ [f]) + wIm f k (u - x) := by
  obtain ⟨h1, h2⟩ := dg_set h hl k hk u x hu hx 512 (Nat.le_refl _)
  rw [if_pos (by omega)] at h1 h2
  rw [smRe_append, smRe_append, smIm_append, smIm_append]
  unfold lfRe lfIm wRe wIm
  simp only
  rw [h1, h2, (rot_add _ _ _ _ _).1, (rot_add _ _ _ _ _).2]
  constructor <;> omega

theorem w_nz (f : Lf) (k : Nat) {d : Int} (hd : d ≠ 0) : ¬ (wRe f k d = 0 ∧ wIm f k d = 0) := by
  refine rot_nz (rot_nz ?_)
  unfold dRe dIm
  have hp : (256 : Int) ^ (k % 4) ≠ 0 := Int.pow_ne_zero (by decide)
  have hm : d * 256 ^ (k % 4) ≠ 0 := Int.mul_ne_zero hd hp
  split <;> omega

theorem d_le (k : Nat) {d : Int} (hd : d.natAbs ≤ 255) : (dRe k d).natAbs ≤ 4294967296 ∧ (dIm k d).natAbs ≤ 4294967296 := by
  have hp : (d * 256 ^ (k % 4)).natAbs ≤ 4294967296 := by
    rw [Int.natAbs_mul, Int.natAbs_pow]
    have h1 : (256 : Int).natAbs ^ (k % 4) ≤ 256 ^ 3 := Nat.pow_le_pow_right (by decide) (by omega)
    have h2 := Nat.mul_le_mul hd h1
    omega
  unfold dRe dIm
  split <;> constructor <;> first | exact hp | decide
end Go.Proofs.Ytdlnipimljpmgaa
