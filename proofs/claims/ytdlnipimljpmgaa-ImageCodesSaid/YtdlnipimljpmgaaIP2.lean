/- The document's reader of images: it reads what is written, too. -/
import Derived.Test.YtdlnipimljpmgaaIP1
set_option linter.unusedVariables false
set_option linter.unusedSimpArgs false
set_option linter.unusedSectionVars false
set_option linter.unnecessarySimpa false
namespace Go.Im

/-- A number of n bytes at a place. -/
def num (l : List Int) (at' n : Nat) : Int := fromLe ((l.drop at').take n)

/-- The leaves from a place on: none: they can't be. -/
def refLeaves : Nat → List Int → Option (List Lf)
  | 0, _ => some []
  | n + 1, l =>
    if l.length < 8 then some [] else
      if 4096 < num l 6 2 ∨ (l.length : Int) - 8 < num l 6 2 then none
      else (refLeaves n (l.drop (8 + (num l 6 2).toNat))).map fun r => ⟨num l 0 4, l.getD 4 0, l.getD 5 0 == 1, fill ((l.drop 8).take (num l 6 2).toNat)⟩ :: r

def refParse (l : List Int) : Option Img :=
  if l.length < 18 then none else (refLeaves 1025 (l.drop 18)).map fun r => ⟨l.getD 4 0 == 1, num l 6 8, l.getD 5 0, r⟩

theorem num_app (v : Int) (a l : List Int) (k n : Nat) (hk : a.length = k) (h0 : 0 ≤ v) (h1 : v < 256 ^ n) : num (a ++ (leB n v ++ l)) k n = v := by
  unfold num
  subst hk
  rw [List.drop_left, List.take_append_of_le_length (by rw [leB_length]; exact Nat.le_refl _), List.take_of_length_le (by rw [leB_length]; exact Nat.le_refl _), fromLe_leB n v h0 h1]

theorem refLeaves_enc : ∀ (fs : List Lf) (n : Nat), (∀ f ∈ fs, Right f) → fs.length < n → refLeaves n (fs.flatMap encLeaf) = some fs
  | [], 0, _, h => by simp at h
  | [], n + 1, _, _ => by simp [refLeaves]
  | f :: fs, 0, _, h => by simp at h
  | f :: fs, n + 1, hr, h => by
    obtain ⟨h1, h2, h3, h4, h5⟩ := hr f (by simp)
    have hu := used_le f.bytes
    have ih := refLeaves_enc fs n (fun g hg => hr g (by simp [hg])) (by simpa using h)
    have e : (f :: fs).flatMap encLeaf = leB 4 f.page ++ ([f.kind % 256, one f.write] ++ (leB 2 (used f.bytes) ++ (f.bytes.take (used f.bytes) ++ fs.flatMap encLeaf))) := by
      simp [encLeaf]
    have e2 : (f :: fs).flatMap encLeaf = (leB 4 f.page ++ [f.kind % 256, one f.write]) ++ (leB 2 (used f.bytes) ++ (f.bytes.take (used f.bytes) ++ fs.flatMap encLeaf)) := by
      rw [e]; simp
    have e3 : (f :: fs).flatMap encLeaf = (leB 4 f.page ++ [f.kind % 256, one f.write] ++ leB 2 (used f.bytes)) ++ (f.bytes.take (used f.bytes) ++ fs.flatMap encLeaf) := by
      rw [e]; simp
    have n0 : num ((f :: fs).flatMap encLeaf) 0 4 = f.page := by
      have := num_app f.page [] ([f.kind % 256, one f.write] ++ (leB 2 (used f.bytes) ++ (f.bytes.take (used f.bytes) ++ fs.flatMap encLeaf))) 0 4 rfl h1 (by simpa using h2)
      rw [e]; exact this
    have n6 : num ((f :: fs).flatMap encLeaf) 6 2 = (used f.bytes : Int) := by
      rw [e2]
      exact num_app _ _ _ 6 2 (by simp [leB_length]) (by omega) (by have : (256 : Int) ^ 2 = 65536 := rfl; rw [this]; omega)
    have g4 : ((f :: fs).flatMap encLeaf).getD 4 0 = f.kind := by
      rw [e]
      have : f.kind % 256 = f.kind := by omega
      simp [List.getD, leB, this]
    have g5 : ((f :: fs).flatMap encLeaf).getD 5 0 = one f.write := by
      rw [e]
      simp [List.getD, leB]
    have hl8 : (leB 4 f.page ++ [f.kind % 256, one f.write] ++ leB 2 (used f.bytes)).length = 8 := by simp [leB_length]
    have hlen : ((f :: fs).flatMap encLeaf).length = 8 + (used f.bytes + (fs.flatMap encLeaf).length) := by
      rw [e3, List.length_append, hl8, List.length_append, List.length_take, Nat.min_eq_left hu]
    have d8 : ((f :: fs).flatMap encLeaf).drop 8 = f.bytes.take (used f.bytes) ++ fs.flatMap encLeaf := by
      rw [e3, ← hl8, List.drop_left]
    have dn : ((f :: fs).flatMap encLeaf).drop (8 + used f.bytes) = fs.flatMap encLeaf := by
      rw [← List.drop_drop, d8]
      exact List.drop_left' (by rw [List.length_take, Nat.min_eq_left hu])
    have t8 : (((f :: fs).flatMap encLeaf).drop 8).take (used f.bytes) = f.bytes.take (used f.bytes) := by
      rw [d8, List.take_append_of_le_length (by rw [List.length_take, Nat.min_eq_left hu]; exact Nat.le_refl _), List.take_take, Nat.min_self]
    unfold refLeaves
    rw [if_neg (by omega), n6, if_neg (by omega)]
    simp only [Int.toNat_natCast]
    rw [dn, ih, n0, g4, g5, t8]
    have hw : (one f.write == 1) = f.write := by cases f.write <;> rfl
    have hf : fill (f.bytes.take (used f.bytes)) = f.bytes := by
      unfold fill
      rw [List.take_of_length_le (by simp; omega)]
      have := used_zero f.bytes
      rw [h5] at this
      rw [List.length_take, Nat.min_eq_left hu, ← this]
      exact List.take_append_drop _ _
    rw [hw, hf]
    rfl

theorem right_of {m : Img} (h : chk m = 0) (hp : ∀ f ∈ m.leaves, 0 ≤ f.page) : ∀ f ∈ m.leaves, Right f := by
  obtain ⟨h1, h2, h3, h4, h5, h6, h7⟩ := chk_right h
  intro f hf
  have hlt := rises_lt _ h7 f hf
  have hw : wrong f = false := by
    have := List.any_eq_false.1 h3 f hf
    simpa using this
  unfold wrong at hw
  simp at hw
  obtain ⟨⟨hk, _⟩, hb⟩ := hw
  refine ⟨hp f hf, by omega, ?_, ?_, hb⟩
  · by_cases e1 : f.kind = 1
    · omega
    · by_cases e2 : f.kind = 2
      · omega
      · have := hk e1 e2; omega
  · by_cases e1 : f.kind = 1
    · omega
    · by_cases e2 : f.kind = 2
      · omega
      · have := hk e1 e2; omega

theorem refParse_enc (m : Img) (h : chk m = 0) (hp : ∀ f ∈ m.leaves, 0 ≤ f.page) (hr : 0 ≤ m.root) : refParse (enc m) = some m := by
  obtain ⟨h1, h2, h3, h4, h5, h6, h7⟩ := chk_right h
  have hR := right_of h hp
  have hh : (encHead m).length = 18 := by simp [encHead, leB_length]
  have hlen : (enc m).length = 18 + (m.leaves.flatMap encLeaf).length := by
    unfold enc
    rw [List.length_append, hh]
  have hd : (enc m).drop 18 = m.leaves.flatMap encLeaf := by
    unfold enc
    rw [← hh, List.drop_left]
  have n6 : num (enc m) 6 8 = m.root := by
    have : enc m = ([68, 77, 73, 49] ++ [one m.on, m.asid % 256]) ++ (leB 8 m.root ++ (leB 4 m.leaves.length ++ m.leaves.flatMap encLeaf)) := by
      unfold enc encHead
      simp
    rw [this]
    exact num_app m.root _ _ 6 8 rfl hr (by have : (256 : Int) ^ 8 = 18446744073709551616 := rfl; rw [this]; omega)
  have g4 : (enc m).getD 4 0 = one m.on := rfl
  have g5 : (enc m).getD 5 0 = m.asid := by
    have : m.asid % 256 = m.asid := by omega
    have e : (enc m).getD 5 0 = m.asid % 256 := rfl
    rw [e, this]
  have hw : (one m.on == 1) = m.on := by cases m.on <;> rfl
  unfold refParse
  rw [if_neg (by omega), hd, refLeaves_enc m.leaves 1025 hR (by omega), n6, g4, g5, hw]
  rfl

/-- What the two readers tell. -/
def dec (l : List Int) : Option Img := (parse l).bind fun m => if chk m = 0 ∧ enc m = l then some m else none
def refDec (l : List Int) : Option Img := (refParse l).bind fun m => if chk m = 0 ∧ enc m = l then some m else none

theorem fromLe_nonneg : ∀ l : List Int, (∀ x ∈ l, 0 ≤ x) → 0 ≤ fromLe l
  | [], _ => Int.le_refl _
  | b :: l, h => by
    have h1 := h b (by simp)
    have h2 := fromLe_nonneg l (fun x hx => h x (by simp [hx]))
    simp only [fromLe]
    omega

def Nn (l : List Int) : Prop := ∀ x ∈ l, 0 ≤ x

theorem take_nn {r : Rd} {n : Nat} (h : Nn r.left) : Nn (take r n).1 ∧ Nn (take r n).2.left := by
  unfold take
  split
  · exact ⟨fun x hx => by rw [List.mem_replicate] at hx; omega, h⟩
  · exact ⟨fun x hx => h x (List.mem_of_mem_take hx), fun x hx => h x (List.mem_of_mem_drop hx)⟩

theorem number_nn {r : Rd} {n : Nat} (h : Nn r.left) : 0 ≤ (number r n).1 ∧ Nn (number r n).2.left := ⟨fromLe_nonneg _ (take_nn h).1, (take_nn h).2⟩

theorem leaf_nn {r : Rd} (h : Nn r.left) : 0 ≤ (leaf r).1.page ∧ Nn (leaf r).2.left := by
  unfold leaf
  have h1 := number_nn (n := 4) h
  have h2 := number_nn (n := 1) h1.2
  have h3 := number_nn (n := 1) h2.2
  have h4 := number_nn (n := 2) h3.2
  exact ⟨h1.1, (take_nn h4.2).2⟩

theorem leavesOf_nn : ∀ (n : Nat) (r : Rd), Nn r.left → ∀ f ∈ (leavesOf n r).1, 0 ≤ f.page
  | 0, r, _, f, hf => by simp [leavesOf] at hf
  | n + 1, r, h, f, hf => by
    unfold leavesOf at hf
    split at hf
    · simp at hf
    · rcases List.mem_cons.1 hf with rfl | hf
      · exact (leaf_nn h).1
      · exact leavesOf_nn n _ (leaf_nn h).2 f hf

theorem body_nn {r : Rd} (h : Nn r.left) : (∀ f ∈ (body r).leaves, 0 ≤ f.page) ∧ 0 ≤ (body r).root := by
  unfold body
  dsimp only
  have h1 := (number_nn (n := 1) h).2
  generalize number r 1 = a at h1 ⊢
  have h2 := (number_nn (n := 1) h1).2
  generalize number a.2 1 = b at h2 ⊢
  have h3 := number_nn (n := 8) h2
  generalize number b.2 8 = c at h3 ⊢
  have h4 := (number_nn (n := 4) h3.2).2
  generalize number c.2 4 = d at h4 ⊢
  exact ⟨leavesOf_nn _ _ h4, h3.1⟩

theorem parse_nn {l : List Int} {m : Img} (h : Nn l) (hm : parse l = some m) : (∀ f ∈ m.leaves, 0 ≤ f.page) ∧ 0 ≤ m.root := by
  unfold parse at hm
  split at hm
  · simp only [Option.some.injEq] at hm
    subst hm
    exact body_nn (take_nn (r := ⟨l, false⟩) (n := 4) h).2
  · cases hm

theorem num_nn {l : List Int} (h : Nn l) (a n : Nat) : 0 ≤ num l a n := fromLe_nonneg _ fun x hx => h x (List.mem_of_mem_drop (List.mem_of_mem_take hx))

theorem refLeaves_nn : ∀ (n : Nat) (l : List Int) (r : List Lf), Nn l → refLeaves n l = some r → ∀ f ∈ r, 0 ≤ f.page
  | 0, l, r, _, hr, f, hf => by
    simp only [refLeaves, Option.some.injEq] at hr
    subst hr; simp at hf
  | n + 1, l, r, h, hr, f, hf => by
    unfold refLeaves at hr
    split at hr
    · simp only [Option.some.injEq] at hr
      subst hr; simp at hf
    · split at hr
      · cases hr
      · rw [Option.map_eq_some_iff] at hr
        obtain ⟨r', h1, rfl⟩ := hr
        rcases List.mem_cons.1 hf with rfl | hf
        · exact num_nn h 0 4
        · exact refLeaves_nn n _ r' (fun x hx => h x (List.mem_of_mem_drop hx)) h1 f hf

theorem refParse_nn {l : List Int} {m : Img} (h : Nn l) (hm : refParse l = some m) : (∀ f ∈ m.leaves, 0 ≤ f.page) ∧ 0 ≤ m.root := by
  unfold refParse at hm
  split at hm
  · cases hm
  · rw [Option.map_eq_some_iff] at hm
    obtain ⟨r, h1, rfl⟩ := hm
    exact ⟨refLeaves_nn _ _ _ (fun x hx => h x (List.mem_of_mem_drop hx)) h1, num_nn h 6 8⟩

theorem dec_iff {l : List Int} (h : Nn l) (m : Img) : dec l = some m ↔ chk m = 0 ∧ enc m = l ∧ (∀ f ∈ m.leaves, 0 ≤ f.page) ∧ 0 ≤ m.root := by
  unfold dec
  rw [Option.bind_eq_some_iff]
  constructor
  · rintro ⟨m', h1, h2⟩
    split at h2
    · rename_i hc
      simp only [Option.some.injEq] at h2
      subst h2
      exact ⟨hc.1, hc.2, parse_nn h h1⟩
    · cases h2
  · rintro ⟨h1, h2, h3, h4⟩
    subst h2
    exact ⟨m, parse_enc m h1 h3 h4, by rw [if_pos ⟨h1, rfl⟩]⟩

theorem refDec_iff {l : List Int} (h : Nn l) (m : Img) : refDec l = some m ↔ chk m = 0 ∧ enc m = l ∧ (∀ f ∈ m.leaves, 0 ≤ f.page) ∧ 0 ≤ m.root := by
  unfold refDec
  rw [Option.bind_eq_some_iff]
  constructor
  · rintro ⟨m', h1, h2⟩
    split at h2
    · rename_i hc
      simp only [Option.some.injEq] at h2
      subst h2
      exact ⟨hc.1, hc.2, refParse_nn h h1⟩
    · cases h2
  · rintro ⟨h1, h2, h3, h4⟩
    subst h2
    exact ⟨m, refParse_enc m h1 h3 h4, by rw [if_pos ⟨h1, rfl⟩]⟩

/-- The two readers tell alike. -/
theorem dec_refDec {l : List Int} (h : Nn l) : dec l = refDec l := by
  cases h1 : dec l with
  | some m => exact ((refDec_iff h m).2 ((dec_iff h m).1 h1)).symm
  | none =>
    cases h2 : refDec l with
    | none => rfl
    | some m => rw [(dec_iff h m).2 ((refDec_iff h m).1 h2)] at h1; cases h1
end Go.Im
