/- Images as bytes: what Encode writes, what Decode reads; what is written is read. -/
set_option linter.unusedVariables false
set_option linter.unusedSimpArgs false
set_option linter.unusedSectionVars false
set_option linter.unnecessarySimpa false
namespace Go.Im

structure Lf where
  page : Int
  kind : Int
  write : Bool
  bytes : List Int
deriving DecidableEq

structure Img where
  on : Bool
  root : Int
  asid : Int
  leaves : List Lf
deriving DecidableEq

/-- A number as n bytes, the lowest first. -/
def leB : Nat → Int → List Int
  | 0, _ => []
  | n + 1, v => v % 256 :: leB n (v / 256)

def fromLe : List Int → Int
  | [] => 0
  | b :: l => b + 256 * fromLe l

/-- How many bytes there are but for the noughts at the end. -/
def used : List Int → Nat
  | [] => 0
  | b :: l => if used l = 0 then (if b = 0 then 0 else 1) else used l + 1

def one (b : Bool) : Int := if b then 1 else 0

def encLeaf (f : Lf) : List Int := leB 4 f.page ++ ([f.kind % 256, one f.write] ++ (leB 2 (used f.bytes) ++ f.bytes.take (used f.bytes)))
def encHead (m : Img) : List Int := [68, 77, 73, 49] ++ ([one m.on, m.asid % 256] ++ (leB 8 m.root ++ leB 4 m.leaves.length))
def enc (m : Img) : List Int := encHead m ++ m.leaves.flatMap encLeaf

def wrong (f : Lf) : Bool := (!(f.kind == 1) && !(f.kind == 2) && !(f.kind == 5)) || (f.write && !(f.kind == 5)) || !(f.bytes.length == 4096)

def rises : List Lf → Bool
  | [] => true
  | [f] => decide (f.page < 268435456)
  | f :: f' :: l => decide (f.page < 268435456) && decide (f.page < f'.page) && rises (f' :: l)

/-- Why an image may not be. -/
def chk (m : Img) : Int :=
  if m.asid < 0 ∨ 255 < m.asid then 1 else if m.leaves.any wrong then 1 else if m.root % 4096 ≠ 0 then 3 else if 1099511627776 ≤ m.root ∨ ¬ (m.leaves.length ≤ 1024 ∧ rises m.leaves = true) then 2 else 0

/-! ### The reader -/

structure Rd where
  left : List Int
  short : Bool

def take (r : Rd) (n : Nat) : List Int × Rd :=
  if r.left.length < n then (List.replicate n 0, ⟨r.left, true⟩) else (r.left.take n, ⟨r.left.drop n, r.short⟩)
def number (r : Rd) (n : Nat) : Int × Rd := (fromLe (take r n).1, (take r n).2)
def fill (l : List Int) : List Int := l.take 4096 ++ List.replicate (4096 - l.length) 0
def leaf (r : Rd) : Lf × Rd :=
  let p := number r 4
  let k := number p.2 1
  let w := number k.2 1
  let n := number w.2 2
  let b := take n.2 n.1.toNat
  (⟨p.1, k.1, !(w.1 == 0), fill b.1⟩, b.2)

def leavesOf : Nat → Rd → List Lf × Rd
  | 0, r => ([], r)
  | n + 1, r => if r.short then ([], r) else ((leaf r).1 :: (leavesOf n (leaf r).2).1, (leavesOf n (leaf r).2).2)

/-- What bytes behind the mark might be. -/
def body (r : Rd) : Img :=
  let a := number r 1
  let b := number a.2 1
  let c := number b.2 8
  let n := number c.2 4
  ⟨!(a.1 == 0), c.1, b.1, (leavesOf (min n.1.toNat 1024) n.2).1⟩

/-- What bytes might be. -/
def parse (l : List Int) : Option Img := if (take ⟨l, false⟩ 4).1 = [68, 77, 73, 49] then some (body (take ⟨l, false⟩ 4).2) else none

theorem leB_length : ∀ (n : Nat) (v : Int), (leB n v).length = n
  | 0, _ => rfl
  | n + 1, v => by simp [leB, leB_length n]

theorem fromLe_leB : ∀ (n : Nat) (v : Int), 0 ≤ v → v < 256 ^ n → fromLe (leB n v) = v
  | 0, v, h0, h1 => by
    have e : (256 : Int) ^ 0 = 1 := rfl
    rw [e] at h1
    have : v = 0 := by omega
    rw [this]; rfl
  | n + 1, v, h0, h1 => by
    have e : (256 : Int) ^ (n + 1) = 256 ^ n * 256 := rfl
    rw [e] at h1
    simp only [leB, fromLe]
    rw [fromLe_leB n (v / 256) (by omega) (by omega)]
    omega

theorem used_le : ∀ l : List Int, used l ≤ l.length
  | [] => Nat.le_refl _
  | b :: l => by
    have := used_le l
    simp only [used, List.length_cons]
    split
    · split <;> omega
    · omega

theorem used_zero : ∀ l : List Int, l.drop (used l) = List.replicate (l.length - used l) 0
  | [] => rfl
  | b :: l => by
    have ih := used_zero l
    have hl := used_le l
    simp only [used]
    split
    · rename_i h
      rw [h] at ih
      simp only [List.drop_zero, Nat.sub_zero] at ih
      split
      · rename_i hb
        subst hb
        simp only [List.drop_zero, List.length_cons, Nat.sub_zero]
        rw [List.replicate_succ, ← ih]
      · simp only [List.drop_succ_cons, List.drop_zero, List.length_cons, Nat.add_sub_cancel]
        exact ih
    · simp only [List.drop_succ_cons, List.length_cons, Nat.add_sub_add_right]
      exact ih

theorem take_app (a l : List Int) (s : Bool) {n : Nat} (h : a.length = n) : take ⟨a ++ l, s⟩ n = (a, ⟨l, s⟩) := by
  unfold take
  rw [if_neg (by simp; omega)]
  subst h
  simp

theorem number_app (v : Int) (l : List Int) (s : Bool) (n : Nat) (h0 : 0 ≤ v) (h1 : v < 256 ^ n) : number ⟨leB n v ++ l, s⟩ n = (v, ⟨l, s⟩) := by
  unfold number
  rw [take_app _ _ _ (leB_length n v), fromLe_leB n v h0 h1]

theorem number_app1 (v : Int) (l : List Int) (s : Bool) (h0 : 0 ≤ v) (h1 : v < 256) : number ⟨v :: l, s⟩ 1 = (v, ⟨l, s⟩) := by
  have := number_app v l s 1 h0 (by simpa using h1)
  have e : leB 1 v = [v] := by simp [leB]; omega
  rw [e] at this
  simpa using this

/-- A leaf that may be. -/
def Right (f : Lf) : Prop := 0 ≤ f.page ∧ f.page < 4294967296 ∧ 0 ≤ f.kind ∧ f.kind < 256 ∧ f.bytes.length = 4096

theorem leaf_app (f : Lf) (l : List Int) (s : Bool) (h : Right f) : leaf ⟨encLeaf f ++ l, s⟩ = (f, ⟨l, s⟩) := by
  obtain ⟨h1, h2, h3, h4, h5⟩ := h
  have hu := used_le f.bytes
  have e1 : number ⟨encLeaf f ++ l, s⟩ 4 = (f.page, ⟨[f.kind % 256, one f.write] ++ (leB 2 (used f.bytes) ++ f.bytes.take (used f.bytes)) ++ l, s⟩) := by
    unfold encLeaf
    rw [List.append_assoc]
    exact number_app f.page _ s 4 h1 (by simpa using h2)
  have e2 : number ⟨[f.kind % 256, one f.write] ++ (leB 2 (used f.bytes) ++ f.bytes.take (used f.bytes)) ++ l, s⟩ 1 = (f.kind, ⟨[one f.write] ++ (leB 2 (used f.bytes) ++ f.bytes.take (used f.bytes)) ++ l, s⟩) := by
    have : f.kind % 256 = f.kind := by omega
    rw [this]
    exact number_app1 f.kind _ s h3 h4
  have e3 : number ⟨[one f.write] ++ (leB 2 (used f.bytes) ++ f.bytes.take (used f.bytes)) ++ l, s⟩ 1 = (one f.write, ⟨leB 2 (used f.bytes) ++ (f.bytes.take (used f.bytes) ++ l), s⟩) := by
    have := number_app1 (one f.write) (leB 2 (used f.bytes) ++ (f.bytes.take (used f.bytes) ++ l)) s (by unfold one; split <;> omega) (by unfold one; split <;> omega)
    rw [← this]
    simp
  have e4 : number ⟨leB 2 (used f.bytes) ++ (f.bytes.take (used f.bytes) ++ l), s⟩ 2 = ((used f.bytes : Int), ⟨f.bytes.take (used f.bytes) ++ l, s⟩) :=
    number_app _ _ s 2 (by omega) (by have : (256 : Int) ^ 2 = 65536 := rfl; rw [this]; omega)
  have e5 : take ⟨f.bytes.take (used f.bytes) ++ l, s⟩ (used f.bytes) = (f.bytes.take (used f.bytes), ⟨l, s⟩) := take_app _ _ _ (by simp; omega)
  unfold leaf
  simp only [e1, e2, e3, e4, Int.toNat_natCast, e5]
  have hw : (!(one f.write == 0)) = f.write := by cases f.write <;> rfl
  have hf : fill (f.bytes.take (used f.bytes)) = f.bytes := by
    unfold fill
    rw [List.take_of_length_le (by simp; omega)]
    have := used_zero f.bytes
    rw [h5] at this
    rw [List.length_take, Nat.min_eq_left hu, ← this]
    exact List.take_append_drop _ _
  rw [hw, hf]

theorem leaves_app : ∀ (fs : List Lf) (l : List Int) (n : Nat), (∀ f ∈ fs, Right f) → fs.length = n → leavesOf n ⟨fs.flatMap encLeaf ++ l, false⟩ = (fs, ⟨l, false⟩)
  | [], l, 0, _, _ => rfl
  | [], _, n + 1, _, h => by simp at h
  | f :: fs, l, 0, _, h => by simp at h
  | f :: fs, l, n + 1, hr, h => by
    have e := leaf_app f (fs.flatMap encLeaf ++ l) false (hr f (by simp))
    have ih := leaves_app fs l n (fun g hg => hr g (by simp [hg])) (by simpa using h)
    unfold leavesOf
    simp only [List.flatMap_cons, List.append_assoc, e, ih, Bool.false_eq_true, if_false]

theorem chk_right {m : Img} (h : chk m = 0) : 0 ≤ m.asid ∧ m.asid ≤ 255 ∧ m.leaves.any wrong = false ∧ m.root % 4096 = 0 ∧ m.root < 1099511627776 ∧ m.leaves.length ≤ 1024 ∧ rises m.leaves = true := by
  unfold chk at h
  split at h
  · cases h
  · split at h
    · cases h
    · split at h
      · cases h
      · split at h
        · cases h
        · rename_i h1 h2 h3 h4
          refine ⟨by omega, by omega, by simpa using h2, by omega, by omega, ?_, ?_⟩
          · exact (Classical.not_not.1 (fun h => h4 (.inr h))).1
          · exact (Classical.not_not.1 (fun h => h4 (.inr h))).2

theorem rises_lt : ∀ (l : List Lf), rises l = true → ∀ f ∈ l, f.page < 268435456
  | [], _, f, hf => by simp at hf
  | [g], h, f, hf => by
    simp only [List.mem_singleton] at hf
    subst hf
    simpa [rises] using h
  | g :: g' :: l, h, f, hf => by
    simp only [rises, Bool.and_eq_true, decide_eq_true_eq] at h
    rcases List.mem_cons.1 hf with rfl | hf
    · exact h.1.1
    · exact rises_lt (g' :: l) h.2 f hf

/-- What is written is read. -/
theorem parse_enc (m : Img) (h : chk m = 0) (hp : ∀ f ∈ m.leaves, 0 ≤ f.page) (hr : 0 ≤ m.root) : parse (enc m) = some m := by
  obtain ⟨h1, h2, h3, h4, h5, h6, h7⟩ := chk_right h
  have hR : ∀ f ∈ m.leaves, Right f := by
    intro f hf
    have hlt := rises_lt _ h7 f hf
    have hw : wrong f = false := by
      have := List.any_eq_false.1 h3 f hf
      simpa using this
    unfold wrong at hw
    simp at hw
    obtain ⟨⟨hk, _⟩, hb⟩ := hw
    refine ⟨hp f hf, by omega, ?_, ?_, hb⟩
    · by_cases e1 : f.kind = 1
      · omega
      · by_cases e2 : f.kind = 2
        · omega
        · have := hk e1 e2; omega
    · by_cases e1 : f.kind = 1
      · omega
      · by_cases e2 : f.kind = 2
        · omega
        · have := hk e1 e2; omega
  have e0 : enc m = [68, 77, 73, 49] ++ ([one m.on, m.asid % 256] ++ (leB 8 m.root ++ (leB 4 m.leaves.length ++ m.leaves.flatMap encLeaf))) := by
    unfold enc encHead
    simp
  have t0 : take ⟨enc m, false⟩ 4 = ([68, 77, 73, 49], ⟨[one m.on, m.asid % 256] ++ (leB 8 m.root ++ (leB 4 m.leaves.length ++ m.leaves.flatMap encLeaf)), false⟩) := by
    rw [e0]; exact take_app _ _ _ rfl
  have t1 : number ⟨[one m.on, m.asid % 256] ++ (leB 8 m.root ++ (leB 4 m.leaves.length ++ m.leaves.flatMap encLeaf)), false⟩ 1 = (one m.on, ⟨[m.asid % 256] ++ (leB 8 m.root ++ (leB 4 m.leaves.length ++ m.leaves.flatMap encLeaf)), false⟩) :=
    number_app1 _ _ _ (by unfold one; split <;> omega) (by unfold one; split <;> omega)
  have t2 : number ⟨[m.asid % 256] ++ (leB 8 m.root ++ (leB 4 m.leaves.length ++ m.leaves.flatMap encLeaf)), false⟩ 1 = (m.asid, ⟨leB 8 m.root ++ (leB 4 m.leaves.length ++ m.leaves.flatMap encLeaf), false⟩) := by
    have : m.asid % 256 = m.asid := by omega
    rw [this]
    exact number_app1 _ _ _ h1 (by omega)
  have t3 := number_app m.root (leB 4 m.leaves.length ++ m.leaves.flatMap encLeaf) false 8 hr (by have : (256 : Int) ^ 8 = 18446744073709551616 := rfl; rw [this]; omega)
  have t4 := number_app (m.leaves.length : Int) (m.leaves.flatMap encLeaf) false 4 (by omega) (by have : (256 : Int) ^ 4 = 4294967296 := rfl; rw [this]; omega)
  have hon : (!(one m.on == 0)) = m.on := by cases m.on <;> rfl
  have t5 := leaves_app m.leaves [] m.leaves.length hR rfl
  rw [List.append_nil] at t5
  unfold parse body
  simp only [t0, t1, t2, t3, t4, if_true, hon, Int.toNat_natCast, Nat.min_eq_left h6, t5]

end Go.Im
