/- Blocks that come, that are changed, that are forgotten. -/
import Derived.Test.YtmjogmpgamlhaaaGreatDmTree
import Derived.Laws.Sem
set_option linter.unusedVariables false
set_option linter.unusedSimpArgs false
set_option linter.unusedSectionVars false
namespace Go.Proofs.YtmjogmpgamlhaaaGreat.Dm
open Go

abbrev Io := Nat → Option (Nat × Nat)

noncomputable def PRs (ι : Io) : List (Nat × Nat) → List Value → Prop
  | [], [] => True
  | (b, o) :: l, v :: r => (∃ cb N, ι b = some (cb, N) ∧ v = .pointer (some ⟨cb, o, none⟩)) ∧ PRs ι l r
  | _, _ => False

noncomputable def SlOk (len o cap z : Nat) (ex : Bool) (N o' capc : Nat) : Prop :=
  len ≤ cap ∧ (ex = true → o' = o ∧ capc = cap) ∧ (ex = false → cap ≤ capc ∧ (cap = 0 ∨ o' = o) ∧ o' + capc * z ≤ N ∧ capc ≤ 9223372036854775807)

/-- Where the value of a name stands. -/
noncomputable def atomKey (id : Nat) : Nat := 1000000000000 + id

/-- A count as a float, as far as counts go. -/
noncomputable def hfb (n : Nat) : Nat := FloatKind.f64.nearest ((min n 1048576 : Nat) : Int)

/-- What operations make of a number, the newest first. -/
noncomputable def evalO : List (Nat × Nat) → Nat → Nat
  | [], n => n
  | (0, c) :: l, n => evalO l n + c
  | (_ + 1, c) :: l, n => evalO l n % c

/-- A page behind a store. -/
noncomputable def putF (f : Nat → Nat) (x s v : Nat) : Nat → Nat := fun i => if x ≤ i ∧ i < x + s then v / 256 ^ (i - x) % 256 else f i
noncomputable def leF (f : Nat → Nat) (x : Nat) : Nat → Nat
  | 0 => 0
  | s + 1 => f x + 256 * leF f (x + 1) s

abbrev Puts := List (Nat × List (Nat × Nat) × Nat × Nat)
/-- The bytes of a page. -/
noncomputable def BY (ι : Io) (z : Bool) : Puts → (Nat → Nat) → Prop
  | [], f => match z with
    | true => ∀ i, f i = 0
    | false => ∀ i, i < 4096 → ∃ c, ι (atomKey (1000 + i)) = some (c, f i) ∧ f i < 256
  | (ia, ops, s, iv) :: p, f => ∃ g c a c' v, BY ι z p g ∧ ι (atomKey ia) = some (c, a) ∧ ι (atomKey iv) = some (c', v) ∧ f = putF g (evalO ops a) s v

noncomputable def bwv (o : Bool) (k n : Nat) : Nat := cnd o (n ||| 2 ^ k) n

noncomputable def VR (ι : Io) : SV → Value → Prop
  | .b x, v => v = .bool x
  | .i k n, v => v = .int k n
  | .f x, v => v = .float .f64 x
  | .c x y, v => v = .complex .f64 x y
  | .s l, v => ∃ s : ByteArray, v = .string s ∧ s.data.toList.map (·.toNat) = l
  | .np, v => v = .pointer none
  | .p b o, v => ∃ cb N, ι b = some (cb, N) ∧ v = .pointer (some ⟨cb, o, none⟩)
  | .nsl, v => v = .slice none 0 0
  | .sl b o len cap z ex, v => ∃ cb N o' capc, ι b = some (cb, N) ∧ v = .slice (some ⟨cb, o', none⟩) len capc ∧ SlOk len o cap z ex N o' capc
  | .nm, v => v = .map none
  | .m r, v => ∃ cb N, ι r = some (cb, N) ∧ v = .map (some cb)
  | .nfn, v => v = .nilFunc
  | .fn f l c, v => ∃ vl vc : Array Value, v = .func (.func f) vl vc ∧ PRs ι l vl.toList ∧ PRs ι c vc.toList
  | .at k lo hi id, v => ∃ c N : Nat, ι (atomKey id) = some (c, N) ∧ v = .int k (N : Int) ∧ lo ≤ N ∧ N ≤ hi
  | .cl k a y j, v => ∃ n : Int, v = .int k n ∧ intBin (cnd a .and .rem) k n y = some (.i k j)
  | .un k, v => ∃ n : Int, v = .int k n
  | .rg k id ops lo hi m r, v => ∃ c a : Nat, ι (atomKey id) = some (c, a) ∧ v = .int k (evalO ops a : Nat) ∧ lo ≤ evalO ops a ∧ evalO ops a ≤ hi ∧ evalO ops a % m = r
  | .gt z p id ops s, v => ∃ f c a, BY ι z p f ∧ ι (atomKey id) = some (c, a) ∧ v = .int .u64 (leF f (evalO ops a) s : Nat)
  | .bw id k b o, v => ∃ c n : Nat, ι (atomKey id) = some (c, n) ∧ n < 18446744073709551616 ∧ n.testBit k = b ∧ v = .int .u64 (bwv o k n : Nat)
  | .hz id a b, v => ∃ c c' r w : Nat, ι (atomKey (2 * id + 2)) = some (c, r) ∧ ι (atomKey (2 * id + 3)) = some (c', w) ∧ v = .complex .f64 (hfb (r + a)) (hfb (w + b))

noncomputable def Rs (ι : Io) : List SV → List Value → Prop
  | [], [] => True
  | x :: l, v :: r => VR ι x v ∧ Rs ι l r
  | _, _ => False

noncomputable def CVR (ι : Io) : CV → Value → Prop
  | .sc x, v => VR ι x v
  | .ag l, v => ∃ a : Array Value, v = .agg a ∧ Rs ι l a.toList

noncomputable def CRs (ι : Io) : List CV → List Value → Prop
  | [], [] => True
  | x :: l, v :: r => CVR ι x v ∧ CRs ι l r
  | _, _ => False

noncomputable def AVR (ι : Io) : AV → Value → Prop
  | .cv x, v => CVR ι x v
  | .tu l, v => ∃ a : Array Value, v = .tuple a ∧ CRs ι l a.toList

noncomputable def ARs (ι : Io) : List AV → List Value → Prop
  | [], [] => True
  | x :: l, v :: r => AVR ι x v ∧ ARs ι l r
  | _, _ => False

noncomputable def MR (ι : Io) (e : ME) (c : MapEntry) : Prop := CVR ι e.key c.key ∧ CVR ι e.val c.val ∧ c.born = e.born

noncomputable def MRs (ι : Io) : List ME → List MapEntry → Prop
  | [], [] => True
  | x :: l, v :: r => MR ι x v ∧ MRs ι l r
  | _, _ => False

/-- What is told of one key. -/
noncomputable def PEr (ι : Io) (k : IntKind) (e : PE) (ces : List MapEntry) : Prop :=
  match e.val with
  | some v => ∃ c ∈ ces, c.key = .int k e.key ∧ CVR ι v c.val
  | none => ∀ c ∈ ces, c.key ≠ .int k e.key
structure PM (ι : Io) (k : IntKind) (es : List PE) (len : Option Nat) (ces : Array MapEntry) (ck : Nat) : Prop where
  int : ∀ c ∈ ces.toList, ∃ n, c.key = .int k n
  nodup : (ces.toList.map (·.key)).Nodup
  born : ∀ c ∈ ces.toList, c.born < ck
  bnodup : (ces.toList.map (·.born)).Nodup
  size : ∀ n, len = some n → ces.size = n
  told : ∀ e ∈ es, PEr ι k e ces.toList
/-- A map has this at a key. -/
noncomputable def HasM (w : World) (cb : Nat) (k : IntKind) (n : Int) (V : Value) : Prop := ∃ ces ck, w.heap[cb]? = some (.map ces ck) ∧ ∃ c ∈ ces.toList, c.key = .int k n ∧ c.val = V
theorem HasM.same {w w' : World} {cb : Nat} (h : w'.heap[cb]? = w.heap[cb]?) (k : IntKind) (n : Int) (V : Value) : HasM w cb k n V ↔ HasM w' cb k n V := by
  unfold HasM
  rw [h]
noncomputable def isPm : AO → Bool
  | .pm .. => true
  | _ => false
/-- Of one kind, and of one set of keys. -/
noncomputable def SamK : AO → AO → Prop
  | .pm k es _, o => ∃ es' l', o = .pm k es' l' ∧ es'.map (·.key) = es.map (·.key)
  | _, o => isPm o = false
theorem SamK.refl (o : AO) : SamK o o := by
  cases o <;> first | rfl | exact ⟨_, _, rfl, rfl⟩
theorem SamK.trans {a b c : AO} (h : SamK a b) (k : SamK b c) : SamK a c := by
  cases a with
  | pm k0 es l =>
    obtain ⟨es', l', rfl, e1⟩ := h
    obtain ⟨es2, l2, rfl, e2⟩ := k
    exact ⟨_, _, rfl, e2.trans e1⟩
  | cells r ro => cases b <;> first | exact k | cases h
  | map es ck => cases b <;> first | exact k | cases h
  | it m since seen st => cases b <;> first | exact k | cases h
  | «by» z p => cases b <;> first | exact k | cases h
theorem SamK.of {a b : AO} (h : isPm a = false) (k : isPm b = false) : SamK a b := by
  cases a <;> first | exact k | cases h

noncomputable def OR (ι : Io) (o : AO) (cb N : Nat) (w : World) : Prop :=
  match o with
  | .cells r ro => ∃ cs el fr, w.heap[cb]? = some (.cells cs el fr) ∧ cs.size = N ∧ r.n ≤ N ∧
      (∀ i v, r.get i = some v → ∃ V, cs[i]? = some V ∧ VR ι v V) ∧ (ro = false → fr.1 = fr.2)
  | .map es ck => ∃ ces : Array MapEntry, w.heap[cb]? = some (.map ces ck) ∧ MRs ι es ces.toList
  | .by z p => ∃ cs el fr f, w.heap[cb]? = some (.cells cs el fr) ∧ cs.size = N ∧ 4096 ≤ N ∧ fr.1 = fr.2 ∧ BY ι z p f ∧ ∀ i, i < 4096 → cs[i]? = some (.int .u8 (f i : Nat))
  | .pm k es len => ∃ ces ck, w.heap[cb]? = some (.map ces ck) ∧ PM ι k es len ces ck
  | .it m since seen st => ∃ m' : Option Nat, w.heap[cb]? = some (.mapIter m' since seen.toArray st) ∧
      (match m, m' with | none, none => True | some r, some c => ∃ N, ι r = some (c, N) | _, _ => False)

structure Rep (ι : Io) (w : World) (h : Heap) : Prop where
  lt : ∀ b o, h.get b = some o → b < h.next
  obj : ∀ b o, h.get b = some o → ∃ cb N, ι b = some (cb, N) ∧ OR ι o cb N w
  inj : ∀ b b' o o' c N N', h.get b = some o → h.get b' = some o' → ι b = some (c, N) → ι b' = some (c, N') → b = b'
  dom : ∀ b c N, ι b = some (c, N) → c < w.heap.size

/-- What a piece of a run leaves. -/
structure Post (ι : Io) (h h' : Heap) (w w' : World) (ι' : Io) : Prop where
  rep : Rep ι' w' h'
  ext : ∀ b, (b < h.next ∨ h'.next ≤ b) → ι' b = ι b
  le : h.next ≤ h'.next
  frame : ∀ c, c < w.heap.size → (∀ b o N, h.get b = some o → ι b ≠ some (c, N)) → w'.heap[c]? = w.heap[c]?
  size : w.heap.size ≤ w'.heap.size
  rep0 : ∀ b o, h.get b = some o → b < h.next
  fresh : ∀ b o c N, h'.get b = some o → ι' b = some (c, N) → (∃ b0 o0 N0, h.get b0 = some o0 ∧ ι b0 = some (c, N0)) ∨ w.heap.size ≤ c
  tape : w'.tape = w.tape
  os : w'.os = w.os
  output : w'.output = w.output
  back : ∀ b o', h'.get b = some o' → b < h.next → ∃ o, h.get b = some o ∧ SamK o o'
  keepM : ∀ b k es l cb N, h.get b = some (.pm k es l) → ι b = some (cb, N) → (∃ o', h'.get b = some o') → ∀ n, (∀ e ∈ es, e.key ≠ n) → ∀ V, HasM w cb k n V ↔ HasM w' cb k n V

noncomputable def Free (ι : Io) (n n' : Nat) : Prop := ∀ b, n ≤ b → b < n' → ι b = none

noncomputable def Sub (ι ι' : Io) : Prop := ∀ b p, ι b = some p → ι' b = some p

theorem Sub.refl (ι : Io) : Sub ι ι := fun _ _ h => h
theorem Sub.trans {a b c : Io} (h : Sub a b) (k : Sub b c) : Sub a c := fun x p hx => k x p (h x p hx)

theorem Post.sub {ι ι' : Io} {h h' : Heap} {w w' : World} (p : Post ι h h' w w' ι') (hf : Free ι h.next h'.next) : Sub ι ι' := by
  intro b x hb
  by_cases h1 : b < h.next
  · rw [p.ext b (.inl h1)]; exact hb
  · by_cases h2 : h'.next ≤ b
    · rw [p.ext b (.inr h2)]; exact hb
    · rw [hf b (by omega) (by omega)] at hb; cases hb

section mono
variable {ι ι' : Io} (hs : Sub ι ι')
include hs

theorem PRs.mono : ∀ {l : List (Nat × Nat)} {r : List Value}, PRs ι l r → PRs ι' l r
  | [], [], _ => trivial
  | [], _ :: _, h => h.elim
  | _ :: _, [], h => h.elim
  | (b, o) :: l, v :: r, ⟨⟨cb, N, hb, hv⟩, h⟩ => ⟨⟨cb, N, hs _ _ hb, hv⟩, PRs.mono h⟩

theorem BY.mono {z : Bool} : ∀ {p : Puts} {f : Nat → Nat}, BY ι z p f → BY ι' z p f
  | [], f, h => by
    cases z
    · intro i hi
      obtain ⟨c, h1, h2⟩ := h i hi
      exact ⟨c, hs _ _ h1, h2⟩
    · exact h
  | _ :: _, f, ⟨g, c, a, c', v, h1, h2, h3, h4⟩ => ⟨g, c, a, c', v, BY.mono h1, hs _ _ h2, hs _ _ h3, h4⟩

theorem VR.mono {x : SV} {v : Value} (h : VR ι x v) : VR ι' x v := by
  cases x with
  | p b o => obtain ⟨cb, N, hb, hv⟩ := h; exact ⟨cb, N, hs _ _ hb, hv⟩
  | sl b o len cap z ex => obtain ⟨cb, N, o', c, hb, hv⟩ := h; exact ⟨cb, N, o', c, hs _ _ hb, hv⟩
  | m r => obtain ⟨cb, N, hb, hv⟩ := h; exact ⟨cb, N, hs _ _ hb, hv⟩
  | fn f l c => obtain ⟨vl, vc, hv, h1, h2⟩ := h; exact ⟨vl, vc, hv, PRs.mono hs h1, PRs.mono hs h2⟩
  | «at» k lo hi id => obtain ⟨c, N, hb, hv⟩ := h; exact ⟨c, N, hs _ _ hb, hv⟩
  | rg k id ops lo hi m r => obtain ⟨c, a, h1, hv⟩ := h; exact ⟨c, a, hs _ _ h1, hv⟩
  | gt z p id ops s => obtain ⟨f, c, a, h0, h1, hv⟩ := h; exact ⟨f, c, a, BY.mono hs h0, hs _ _ h1, hv⟩
  | bw id k b o => obtain ⟨c, n, h1, hv⟩ := h; exact ⟨c, n, hs _ _ h1, hv⟩
  | hz id a b => obtain ⟨c, c', r, w, h1, h2, hv⟩ := h; exact ⟨c, c', r, w, hs _ _ h1, hs _ _ h2, hv⟩
  | _ => exact h

theorem Rs.mono : ∀ {l : List SV} {r : List Value}, Rs ι l r → Rs ι' l r
  | [], [], _ => trivial
  | [], _ :: _, h => h.elim
  | _ :: _, [], h => h.elim
  | _ :: _, _ :: _, ⟨a, b⟩ => ⟨VR.mono hs a, Rs.mono b⟩

theorem CVR.mono {x : CV} {v : Value} (h : CVR ι x v) : CVR ι' x v := by
  cases x with
  | sc x => exact VR.mono hs h
  | ag l => obtain ⟨a, hv, h⟩ := h; exact ⟨a, hv, Rs.mono hs h⟩

theorem CRs.mono : ∀ {l : List CV} {r : List Value}, CRs ι l r → CRs ι' l r
  | [], [], _ => trivial
  | [], _ :: _, h => h.elim
  | _ :: _, [], h => h.elim
  | _ :: _, _ :: _, ⟨a, b⟩ => ⟨CVR.mono hs a, CRs.mono b⟩

theorem AVR.mono {x : AV} {v : Value} (h : AVR ι x v) : AVR ι' x v := by
  cases x with
  | cv x => exact CVR.mono hs h
  | tu l => obtain ⟨a, hv, h⟩ := h; exact ⟨a, hv, CRs.mono hs h⟩

theorem MRs.mono : ∀ {l : List ME} {r : List MapEntry}, MRs ι l r → MRs ι' l r
  | [], [], _ => trivial
  | [], _ :: _, h => h.elim
  | _ :: _, [], h => h.elim
  | _ :: _, _ :: _, ⟨⟨a, c, d⟩, b⟩ => ⟨⟨CVR.mono hs a, CVR.mono hs c, d⟩, MRs.mono b⟩

theorem PM.mono {k : IntKind} {es : List PE} {len : Option Nat} {ces : Array MapEntry} {ck : Nat} (h : PM ι k es len ces ck) : PM ι' k es len ces ck := by
  refine ⟨h.int, h.nodup, h.born, h.bnodup, h.size, fun e he => ?_⟩
  have := h.told e he
  unfold PEr at this ⊢
  cases hv : e.val with
  | none => rw [hv] at this; exact this
  | some v =>
    rw [hv] at this
    obtain ⟨c, h1, h2, h3⟩ := this
    exact ⟨c, h1, h2, CVR.mono hs h3⟩

theorem OR.mono {o : AO} {cb N : Nat} {w w' : World} (hw : w'.heap[cb]? = w.heap[cb]?) (h : OR ι o cb N w) : OR ι' o cb N w' := by
  cases o with
  | cells r ro =>
    obtain ⟨cs, el, fr, h1, h2, h3, h4, h5⟩ := h
    exact ⟨cs, el, fr, hw.trans h1, h2, h3, fun i v hi => let ⟨V, a, b⟩ := h4 i v hi; ⟨V, a, VR.mono hs b⟩, h5⟩
  | map es ck => obtain ⟨ces, h1, h2⟩ := h; exact ⟨ces, hw.trans h1, MRs.mono hs h2⟩
  | pm k es len => obtain ⟨ces, ck, h1, h2⟩ := h; exact ⟨ces, ck, hw.trans h1, h2.mono hs⟩
  | «by» z p =>
    obtain ⟨cs, el, fr, f, h1, h2, h3, h4, h5, h6⟩ := h
    exact ⟨cs, el, fr, f, hw.trans h1, h2, h3, h4, BY.mono hs h5, h6⟩
  | it m since seen st =>
    obtain ⟨m', h1, h2⟩ := h
    refine ⟨m', hw.trans h1, ?_⟩
    cases m <;> cases m' <;> simp only [] at h2 ⊢
    obtain ⟨N, h2⟩ := h2
    exact ⟨N, hs _ _ h2⟩
end mono

theorem Rs.length : ∀ {ι : Io} {l : List SV} {r : List Value}, Rs ι l r → l.length = r.length
  | _, [], [], _ => rfl
  | _, [], _ :: _, h => h.elim
  | _, _ :: _, [], h => h.elim
  | _, _ :: _, _ :: _, ⟨_, b⟩ => by simp [Rs.length b]

theorem Rs.get : ∀ {ι : Io} {l : List SV} {r : List Value} {i : Nat} {x : SV}, Rs ι l r → l[i]? = some x → ∃ v, r[i]? = some v ∧ VR ι x v
  | _, [], [], _, _, _, h => by simp at h
  | _, [], _ :: _, _, _, h, _ => h.elim
  | _, _ :: _, [], _, _, h, _ => h.elim
  | _, _ :: _, v :: _, 0, _, ⟨a, _⟩, h => by simp at h; subst h; exact ⟨v, rfl, a⟩
  | _, _ :: _, _ :: _, i + 1, _, ⟨_, b⟩, h => by simp at h; simpa using Rs.get b h

theorem Rs.append : ∀ {ι : Io} {l l' : List SV} {r r' : List Value}, Rs ι l r → Rs ι l' r' → Rs ι (l ++ l') (r ++ r')
  | _, [], _, [], _, _, h => h
  | _, [], _, _ :: _, _, h, _ => h.elim
  | _, _ :: _, _, [], _, h, _ => h.elim
  | _, _ :: _, _, _ :: _, _, ⟨a, b⟩, h => ⟨a, Rs.append b h⟩

theorem Rs.take : ∀ {ι : Io} {l : List SV} {r : List Value} (n : Nat), Rs ι l r → Rs ι (l.take n) (r.take n)
  | _, [], [], n, _ => by simp [Rs]
  | _, [], _ :: _, _, h => h.elim
  | _, _ :: _, [], _, h => h.elim
  | _, _ :: _, _ :: _, 0, _ => by simp [Rs]
  | _, _ :: _, _ :: _, n + 1, ⟨a, b⟩ => ⟨a, Rs.take n b⟩

theorem Rs.drop : ∀ {ι : Io} {l : List SV} {r : List Value} (n : Nat), Rs ι l r → Rs ι (l.drop n) (r.drop n)
  | _, [], [], n, _ => by simp [Rs]
  | _, [], _ :: _, _, h => h.elim
  | _, _ :: _, [], _, h => h.elim
  | _, _ :: _, _ :: _, 0, h => h
  | _, _ :: _, _ :: _, n + 1, ⟨_, b⟩ => Rs.drop n b

theorem CRs.get : ∀ {ι : Io} {l : List CV} {r : List Value} {i : Nat} {x : CV}, CRs ι l r → l[i]? = some x → ∃ v, r[i]? = some v ∧ CVR ι x v
  | _, [], [], _, _, _, h => by simp at h
  | _, [], _ :: _, _, _, h, _ => h.elim
  | _, _ :: _, [], _, _, h, _ => h.elim
  | _, _ :: _, v :: _, 0, _, ⟨a, _⟩, h => by simp at h; subst h; exact ⟨v, rfl, a⟩
  | _, _ :: _, _ :: _, i + 1, _, ⟨_, b⟩, h => by simp at h; simpa using CRs.get b h

theorem VR.one {ι : Io} {x : SV} {v : Value} (h : VR ι x v) : v.oneCell' = true := by
  cases x <;> simp only [VR] at h
  case s l => obtain ⟨s, rfl, _⟩ := h; rfl
  case p b o => obtain ⟨_, _, _, rfl⟩ := h; rfl
  case sl => obtain ⟨_, _, _, _, _, rfl, _⟩ := h; rfl
  case m => obtain ⟨_, _, _, rfl⟩ := h; rfl
  case fn => obtain ⟨_, _, rfl, _⟩ := h; rfl
  case «at» => obtain ⟨_, _, _, rfl, _⟩ := h; rfl
  case cl => obtain ⟨_, rfl, _⟩ := h; rfl
  case un => obtain ⟨_, rfl⟩ := h; rfl
  case hz => obtain ⟨_, _, _, _, _, _, rfl⟩ := h; rfl
  case rg => obtain ⟨_, _, _, rfl, _⟩ := h; rfl
  case gt => obtain ⟨_, _, _, _, _, rfl⟩ := h; rfl
  case bw => obtain ⟨_, _, _, _, _, rfl⟩ := h; rfl
  all_goals (subst h; rfl)

theorem VR.cells {ι : Io} {x : SV} {v : Value} (h : VR ι x v) : v.cells = #[v] := by
  have := VR.one h
  cases v <;> simp_all [Value.oneCell', Value.cells]

theorem CVR.cells {ι : Io} {x : CV} {v : Value} (h : CVR ι x v) : Rs ι x.cells v.cells.toList := by
  cases x with
  | sc x => rw [VR.cells h]; exact ⟨h, trivial⟩
  | ag l => obtain ⟨a, rfl, h⟩ := h; exact h

theorem Rs.one : ∀ {ι : Io} {l : List SV} {r : List Value}, Rs ι l r → ∀ v ∈ r, v.oneCell' = true
  | _, [], [], _, _, h => by simp at h
  | _, [], _ :: _, h, _, _ => h.elim
  | _, _ :: _, [], h, _, _ => h.elim
  | _, _ :: _, _ :: _, ⟨a, b⟩, v, hv => by
    rcases List.mem_cons.1 hv with rfl | hv
    · exact VR.one a
    · exact Rs.one b v hv

/-! ### a piece behind a piece -/

theorem Rep.same {ι : Io} {w w' : World} {h : Heap} (r : Rep ι w h) (hs : ∀ c, c < w.heap.size → w'.heap[c]? = w.heap[c]?) (hz : w.heap.size ≤ w'.heap.size) : Rep ι w' h :=
  ⟨r.lt, fun b o hb => let ⟨cb, N, h1, h2⟩ := r.obj b o hb; ⟨cb, N, h1, OR.mono (Sub.refl ι) (hs cb (r.dom b cb N h1)) h2⟩, r.inj, fun b c N hb => Nat.lt_of_lt_of_le (r.dom b c N hb) hz⟩

theorem Post.refl {ι : Io} {h : Heap} {w : World} (r : Rep ι w h) : Post ι h h w w ι :=
  ⟨r, fun _ _ => rfl, Nat.le_refl _, fun _ _ _ => rfl, Nat.le_refl _, r.lt, fun b o c N h k => .inl ⟨b, o, N, h, k⟩, rfl, rfl, rfl, fun b o hb _ => ⟨o, hb, SamK.refl o⟩, fun _ _ _ _ _ _ _ _ _ _ _ _ => Iff.rfl⟩

theorem Post.trans {ι ι' ι'' : Io} {h h' h'' : Heap} {w w' w'' : World} (p : Post ι h h' w w' ι') (q : Post ι' h' h'' w' w'' ι'') : Post ι h h'' w w'' ι'' where
  rep := q.rep
  ext b hb := by
    have := p.le; have := q.le
    rcases hb with hb | hb
    · rw [q.ext b (.inl (by omega)), p.ext b (.inl hb)]
    · rw [q.ext b (.inr hb), p.ext b (.inr (by omega))]
  le := Nat.le_trans p.le q.le
  frame c hc hno := by
    rw [q.frame c (Nat.lt_of_lt_of_le hc p.size), p.frame c hc hno]
    intro b o N hb he
    rcases p.fresh b o c N hb he with ⟨b0, o0, N0, h0, h1⟩ | h1
    · exact hno b0 o0 N0 h0 h1
    · omega
  size := Nat.le_trans p.size q.size
  rep0 := p.rep0
  fresh b o c N hb he := by
    rcases q.fresh b o c N hb he with ⟨b0, o0, N0, h0, h1⟩ | h1
    · exact p.fresh b0 o0 c N0 h0 h1
    · exact .inr (Nat.le_trans p.size h1)
  tape := q.tape.trans p.tape
  os := q.os.trans p.os
  output := q.output.trans p.output
  back b o hb hn := by
    obtain ⟨o1, h1, k1⟩ := q.back b o hb (Nat.lt_of_lt_of_le hn p.le)
    obtain ⟨o0, h0, k0⟩ := p.back b o1 h1 hn
    exact ⟨o0, h0, k0.trans k1⟩
  keepM b k es l cb N hb hι ho n hn V := by
    obtain ⟨o2, ho2⟩ := ho
    have hlt := p.rep0 b _ hb
    obtain ⟨o1, h1, k1⟩ := q.back b o2 ho2 (Nat.lt_of_lt_of_le hlt p.le)
    obtain ⟨o0, h0, k0⟩ := p.back b o1 h1 hlt
    rw [hb] at h0
    obtain rfl := Option.some.inj h0
    obtain ⟨es', l', rfl, e1⟩ := k0
    refine (p.keepM b k es l cb N hb hι ⟨_, h1⟩ n hn V).trans (q.keepM b k es' l' cb N h1 (by rw [p.ext b (.inl hlt)]; exact hι) ⟨o2, ho2⟩ n (fun e he hh => ?_) V)
    have : e.key ∈ es.map (·.key) := by rw [← e1]; exact List.mem_map.2 ⟨e, he, rfl⟩
    obtain ⟨e0, he0, hk0⟩ := List.mem_map.1 this
    exact hn e0 he0 (hk0.trans hh)

theorem Post.free {ι ι' : Io} {h h' : Heap} {w w' : World} (p : Post ι h h' w w' ι') {n : Nat} (hf : Free ι h.next n) : Free ι' h'.next n := by
  intro b hb hn
  have := p.le
  rw [p.ext b (.inr hb)]
  exact hf b (by omega) hn

theorem Free.mono {ι : Io} {a b c : Nat} (h : Free ι a c) (hb : b ≤ c) : Free ι a b := fun x hx hn => h x hx (by omega)

end Go.Proofs.YtmjogmpgamlhaaaGreat.Dm

namespace Go.Proofs.YtmjogmpgamlhaaaGreat.Dm
open Go

theorem Heap.get_put (h : Heap) (b : Nat) (o : AO) (x : Nat) : (h.put b o).get x = if x = b then some o else h.get x := Tr.get_put _ _ _ _
theorem Heap.get_kill (h : Heap) (b x : Nat) : (h.kill b).get x = if x = b then none else h.get x := Tr.get_put _ _ _ _
theorem Heap.get_push (h : Heap) (o : AO) (x : Nat) : (h.push o).get x = if x = h.next then some o else h.get x := Tr.get_put _ _ _ _

theorem Post.push {ι : Io} {w w' : World} {h : Heap} (o : AO) (N : Nat) (r : Rep ι w h) (hf : Free ι h.next (h.push o).next)
    (hw : ∀ c, c < w.heap.size → w'.heap[c]? = w.heap[c]?) (hz : w'.heap.size = w.heap.size + 1)
    (ht : w'.tape = w.tape) (ho : w'.os = w.os) (hp : w'.output = w.output)
    (hr : OR (fun b => if b = h.next then some (w.heap.size, N) else ι b) o w.heap.size N w') :
    Post ι h (h.push o) w w' (fun b => if b = h.next then some (w.heap.size, N) else ι b) := by
  have hn : ι h.next = none := hf h.next (Nat.le_refl _) (Nat.lt_succ_self _)
  have hs : Sub ι (fun b => if b = h.next then some (w.heap.size, N) else ι b) := by
    intro b p hb
    by_cases e : b = h.next
    · subst e; rw [hn] at hb; cases hb
    · simp only [if_neg e]; exact hb
  refine ⟨⟨?_, ?_, ?_, ?_⟩, ?_, Nat.le_succ _, fun c hc _ => hw c hc, by omega, r.lt, ?_, ht, ho, hp, fun b x hb hlt => ?_, fun b k es l cb M hb hι _ n _ V => HasM.same (hw cb (r.dom b cb M hι)) k n V⟩
  rotate_left 6
  · rw [Heap.get_push, if_neg (by omega)] at hb
    exact ⟨x, hb, SamK.refl x⟩
  · intro b x hb
    rw [Heap.get_push] at hb
    show b < h.next + 1
    by_cases e : b = h.next
    · omega
    · rw [if_neg e] at hb; have := r.lt b x hb; omega
  · intro b x hb
    rw [Heap.get_push] at hb
    by_cases e : b = h.next
    · rw [if_pos e] at hb
      simp only [Option.some.injEq] at hb; subst hb
      exact ⟨w.heap.size, N, by simp only [if_pos e], hr⟩
    · rw [if_neg e] at hb
      obtain ⟨cb, M, h1, h2⟩ := r.obj b x hb
      exact ⟨cb, M, by simp only [if_neg e]; exact h1, OR.mono hs (hw cb (r.dom b cb M h1)) h2⟩
  · intro b b' x x' c M M' hb hb' h1 h2
    rw [Heap.get_push] at hb hb'
    by_cases e : b = h.next <;> by_cases e' : b' = h.next
    · omega
    · rw [if_pos e] at h1; rw [if_neg e'] at h2
      simp only [Option.some.injEq, Prod.mk.injEq] at h1
      have := r.dom b' c M' h2; omega
    · rw [if_neg e] at h1; rw [if_pos e'] at h2
      simp only [Option.some.injEq, Prod.mk.injEq] at h2
      have := r.dom b c M h1; omega
    · rw [if_neg e] at h1 hb; rw [if_neg e'] at h2 hb'
      exact r.inj b b' x x' c M M' hb hb' h1 h2
  · intro b c M h1
    by_cases e : b = h.next
    · rw [if_pos e] at h1; simp only [Option.some.injEq, Prod.mk.injEq] at h1; omega
    · rw [if_neg e] at h1; have := r.dom b c M h1; omega
  · intro b hb
    have : b ≠ h.next := by
      rcases hb with hb | hb
      · omega
      · have : h.next + 1 ≤ b := hb; omega
    simp only [if_neg this]
  · intro b x c M hb h1
    rw [Heap.get_push] at hb
    by_cases e : b = h.next
    · rw [if_pos e] at h1; simp only [Option.some.injEq, Prod.mk.injEq] at h1; right; omega
    · rw [if_neg e] at h1 hb; exact .inl ⟨b, x, M, hb, h1⟩

theorem Post.put {ι : Io} {w w' : World} {h : Heap} {b cb N : Nat} {o o' : AO} (r : Rep ι w h) (hb : h.get b = some o) (hi : ι b = some (cb, N))
    (hw : ∀ c, c ≠ cb → w'.heap[c]? = w.heap[c]?) (hz : w'.heap.size = w.heap.size)
    (ht : w'.tape = w.tape) (ho : w'.os = w.os) (hp : w'.output = w.output) (hr : OR ι o' cb N w') (hq : SamK o o' := by first | rfl | exact SamK.of rfl rfl) (hm : ∀ k es l, o = .pm k es l → ∀ n, (∀ e ∈ es, e.key ≠ n) → ∀ V, HasM w cb k n V ↔ HasM w' cb k n V := by intro _ _ _ h; cases h) :
    Post ι h (h.put b o') w w' ι := by
  refine ⟨⟨?_, ?_, ?_, ?_⟩, fun _ _ => rfl, Nat.le_refl _, ?_, by omega, r.lt, ?_, ht, ho, hp, fun x y hx _ => ?_, fun x k es l c M hx hι _ n hn V => ?_⟩
  rotate_left 6
  · rw [Heap.get_put] at hx
    by_cases e : x = b
    · rw [if_pos e] at hx
      obtain rfl := Option.some.inj hx
      exact ⟨o, e ▸ hb, hq⟩
    · rw [if_neg e] at hx; exact ⟨y, hx, SamK.refl y⟩
  · by_cases e : x = b
    · subst e
      rw [hb] at hx
      rw [hi] at hι
      simp only [Option.some.injEq, Prod.mk.injEq] at hι
      obtain ⟨rfl, rfl⟩ := hι
      exact hm k es l (Option.some.inj hx) n hn V
    · refine HasM.same (hw c (fun hc => ?_)) k n V
      subst hc
      exact e (r.inj x b _ o _ _ _ hx hb hι hi)
  · intro x y hx
    rw [Heap.get_put] at hx
    show x < h.next
    by_cases e : x = b
    · subst e; exact r.lt x o hb
    · rw [if_neg e] at hx; exact r.lt x y hx
  · intro x y hx
    rw [Heap.get_put] at hx
    by_cases e : x = b
    · rw [if_pos e] at hx; simp only [Option.some.injEq] at hx; subst hx; subst e
      exact ⟨cb, N, hi, hr⟩
    · rw [if_neg e] at hx
      obtain ⟨c, M, h1, h2⟩ := r.obj x y hx
      refine ⟨c, M, h1, OR.mono (Sub.refl ι) (hw c ?_) h2⟩
      intro hc; subst hc
      exact e (r.inj x b y o c M N hx hb h1 hi)
  · intro x x' y y' c M M' hx hx' h1 h2
    rw [Heap.get_put] at hx hx'
    have A : ∃ z, h.get x = some z := by
      by_cases e : x = b
      · exact ⟨o, e ▸ hb⟩
      · rw [if_neg e] at hx; exact ⟨y, hx⟩
    have B : ∃ z, h.get x' = some z := by
      by_cases e : x' = b
      · exact ⟨o, e ▸ hb⟩
      · rw [if_neg e] at hx'; exact ⟨y', hx'⟩
    obtain ⟨z, hz'⟩ := A
    obtain ⟨z', hz''⟩ := B
    exact r.inj x x' z z' c M M' hz' hz'' h1 h2
  · intro x c M h1; rw [hz]; exact r.dom x c M h1
  · intro c _ hno
    apply hw
    intro hc; subst hc
    exact hno b o N hb hi
  · intro x y c M hx hc
    rw [Heap.get_put] at hx
    by_cases e : x = b
    · exact .inl ⟨x, o, M, e ▸ hb, hc⟩
    · rw [if_neg e] at hx; exact .inl ⟨x, y, M, hx, hc⟩

theorem Post.kill {ι : Io} {w : World} {h : Heap} (b : Nat) (r : Rep ι w h) : Post ι h (h.kill b) w w ι := by
  have g : ∀ x y, (h.kill b).get x = some y → h.get x = some y := by
    intro x y hx
    rw [Heap.get_kill] at hx
    by_cases e : x = b
    · rw [if_pos e] at hx; cases hx
    · rw [if_neg e] at hx; exact hx
  exact ⟨⟨fun x y hx => r.lt x y (g x y hx), fun x y hx => r.obj x y (g x y hx), fun x x' y y' c N N' hx hx' => r.inj x x' y y' c N N' (g x y hx) (g x' y' hx'), r.dom⟩,
    fun _ _ => rfl, Nat.le_refl _, fun _ _ _ => rfl, Nat.le_refl _, r.lt, fun x y c N hx hc => .inl ⟨x, y, N, g x y hx, hc⟩, rfl, rfl, rfl, fun x y hx _ => ⟨y, g x y hx, SamK.refl y⟩, fun _ _ _ _ _ _ _ _ _ _ _ _ => Iff.rfl⟩

/-- Nothing that is known of memory turns: draws, marks beyond rows' ends. -/
theorem Post.still {ι : Io} {w w' : World} {h : Heap} (r : Rep ι w h) (hw : w'.heap = w.heap) (ht : w'.tape = w.tape) (ho : w'.os = w.os) (hp : w'.output = w.output) :
    Post ι h h w w' ι :=
  ⟨r.same (fun c _ => by rw [hw]) (by rw [hw]; exact Nat.le_refl _), fun _ _ => rfl, Nat.le_refl _, fun c _ _ => by rw [hw], by rw [hw]; exact Nat.le_refl _, r.lt, fun b o c N h k => .inl ⟨b, o, N, h, k⟩, ht, ho, hp, fun b o hb _ => ⟨o, hb, SamK.refl o⟩, fun b k es l cb N _ _ _ n _ V => HasM.same (by rw [hw]) k n V⟩

/-! ### rows -/

theorem Row.get_lt {r : Row} {i : Nat} {v : SV} (h : r.get i = some v) : i < r.n := by
  unfold Row.get at h
  cases hb : Nat.blt i r.n with
  | false => rw [hb] at h; cases h
  | true => exact Nat.le_of_ble_eq_true hb

theorem Row.get_ge {r : Row} {i : Nat} (h : r.n ≤ i) : r.get i = none := by
  cases h' : r.get i with
  | none => rfl
  | some v => have := Row.get_lt h'; omega

theorem Row.get_some {r : Row} {i : Nat} (h : i < r.n) : ∃ v, r.get i = some v := by
  unfold Row.get
  have : Nat.blt i r.n = true := Nat.ble_eq_true_of_le h
  rw [this]
  simp only [cnd_true]
  split
  · exact ⟨_, rfl⟩
  · exact ⟨_, rfl⟩

theorem Row.get_putAll : ∀ (l : List SV) (t : Tr SV) (i j : Nat), (Row.putAll t i l).get j = if i ≤ j then (match l[j - i]? with | some v => some v | none => t.get j) else t.get j
  | [], t, i, j => by simp [Row.putAll]
  | v :: l, t, i, j => by
    simp only [Row.putAll]
    rw [Row.get_putAll l, Tr.get_put]
    by_cases h1 : i ≤ j
    · rw [if_pos h1]
      by_cases h2 : Nat.succ i ≤ j
      · rw [if_pos h2]
        have : j - i = (j - Nat.succ i) + 1 := by omega
        rw [this, List.getElem?_cons_succ, if_neg (by omega)]
      · rw [if_neg h2]
        have : j = i := by omega
        subst this; simp
    · rw [if_neg h1, if_neg (by omega), if_neg (by omega)]

theorem Row.get_ofList (l : List SV) (i : Nat) : (Row.ofList l).get i = l[i]? := by
  unfold Row.get Row.ofList
  simp only [Row.get_putAll, Nat.zero_le, if_true, Nat.sub_zero]
  cases hb : Nat.blt i l.length with
  | false =>
    have : ¬ i < l.length := fun h => by rw [show Nat.blt i l.length = true from Nat.ble_eq_true_of_le h] at hb; cases hb
    rw [List.getElem?_eq_none (by omega)]; rfl
  | true =>
    have : i < l.length := Nat.le_of_ble_eq_true hb
    rw [List.getElem?_eq_getElem this]; rfl

theorem Row.get_rep (n : Nat) (d : SV) (i : Nat) : (Row.rep n d).get i = if i < n then some d else none := by
  unfold Row.get Row.rep
  cases hb : Nat.blt i n with
  | false =>
    have : ¬ i < n := fun h => by rw [show Nat.blt i n = true from Nat.ble_eq_true_of_le h] at hb; cases hb
    rw [if_neg this]; rfl
  | true =>
    have : i < n := Nat.le_of_ble_eq_true hb
    rw [if_pos this]; rfl

theorem Row.get_write {r r' : Row} {o : Nat} {l : List SV} (h : r.write o l = some r') : o + l.length ≤ r.n ∧ r'.n = r.n ∧
    ∀ i, r'.get i = if o ≤ i ∧ i < o + l.length then l[i - o]? else r.get i := by
  unfold Row.write at h
  cases hb : Nat.ble (Nat.add o l.length) r.n with
  | false => rw [hb] at h; cases h
  | true =>
    rw [hb] at h
    simp only [cnd_true, Option.some.injEq] at h
    have hle : o + l.length ≤ r.n := Nat.le_of_ble_eq_true hb
    subst h
    refine ⟨hle, rfl, fun i => ?_⟩
    unfold Row.get
    simp only [Row.get_putAll]
    cases hc : Nat.blt i r.n with
    | false =>
      have : ¬ i < r.n := fun h => by rw [show Nat.blt i r.n = true from Nat.ble_eq_true_of_le h] at hc; cases hc
      have e : ¬ (o ≤ i ∧ i < o + l.length) := by omega
      rw [if_neg e]; rfl
    | true =>
      simp only [cnd_true]
      by_cases h1 : o ≤ i
      · rw [if_pos h1]
        by_cases h2 : i < o + l.length
        · rw [if_pos ⟨h1, h2⟩, List.getElem?_eq_getElem (by omega)]
        · rw [if_neg (by omega), List.getElem?_eq_none (by omega)]
      · rw [if_neg h1, if_neg (by omega)]

theorem Row.get_app (r : Row) (l : List SV) (i : Nat) : (r.app l).get i = if i < r.n then r.get i else l[i - r.n]? := by
  unfold Row.get Row.app
  simp only [Row.get_putAll]
  by_cases h : i < r.n
  · rw [if_pos h, if_neg (by omega), show Nat.blt i r.n = true from Nat.ble_eq_true_of_le h,
      show Nat.blt i (Nat.add r.n l.length) = true from Nat.ble_eq_true_of_le (show i + 1 ≤ r.n + l.length by omega)]
  · rw [if_neg h, if_pos (by omega)]
    by_cases h2 : i < r.n + l.length
    · rw [show Nat.blt i (Nat.add r.n l.length) = true from Nat.ble_eq_true_of_le (show i + 1 ≤ r.n + l.length by omega), List.getElem?_eq_getElem (by omega)]
      rfl
    · have : Nat.blt i (Nat.add r.n l.length) = false := by
        cases hb : Nat.blt i (Nat.add r.n l.length) with
        | false => rfl
        | true => exact absurd (Nat.le_of_ble_eq_true hb) (show ¬ i + 1 ≤ r.n + l.length by omega)
      rw [this, List.getElem?_eq_none (by omega)]; rfl

theorem Row.read_spec (r : Row) : ∀ (k o : Nat) (l : List SV), r.read o k = some l → l.length = k ∧ ∀ i, i < k → r.get (o + i) = l[i]?
  | 0, o, l, h => by simp [Row.read] at h; subst h; simp
  | k + 1, o, l, h => by
    simp only [Row.read] at h
    cases h1 : r.get o with
    | none => rw [h1] at h; cases h
    | some v =>
      rw [h1] at h
      simp only [] at h
      cases h2 : r.read (Nat.succ o) k with
      | none => rw [h2] at h; cases h
      | some l' =>
        rw [h2] at h
        simp only [Option.some.injEq] at h
        subst h
        obtain ⟨a, b⟩ := Row.read_spec r k (Nat.succ o) l' h2
        refine ⟨by simp [a], fun i hi => ?_⟩
        cases i with
        | zero => simpa using h1
        | succ i =>
          have := b i (by omega)
          rw [List.getElem?_cons_succ, ← this]
          congr 1; omega

/-- A block is known by a new name; the elder one is forgotten. -/
theorem Post.move {ι : Io} {w w' : World} {h : Heap} {b cb N : Nat} {o o' : AO} (r : Rep ι w h) (hf : Free ι h.next (h.push o').next) (hb : h.get b = some o) (hi : ι b = some (cb, N))
    (hw : ∀ c, c ≠ cb → w'.heap[c]? = w.heap[c]?) (hz : w'.heap.size = w.heap.size)
    (ht : w'.tape = w.tape) (ho : w'.os = w.os) (hp : w'.output = w.output)
    (hr : OR (fun x => if x = h.next then some (cb, N) else ι x) o' cb N w') :
    Post ι h ((h.kill b).push o') w w' (fun x => if x = h.next then some (cb, N) else ι x) := by
  have hn : ι h.next = none := hf h.next (Nat.le_refl _) (Nat.lt_succ_self _)
  have hs : Sub ι (fun x => if x = h.next then some (cb, N) else ι x) := by
    intro x p hx
    by_cases e : x = h.next
    · subst e; rw [hn] at hx; cases hx
    · simp only [if_neg e]; exact hx
  have hcb := r.dom b cb N hi
  have g : ∀ x y, ((h.kill b).push o').get x = some y → (x = h.next ∧ y = o') ∨ (x ≠ h.next ∧ x ≠ b ∧ h.get x = some y) := by
    intro x y hx
    rw [Heap.get_push] at hx
    have : (h.kill b).next = h.next := rfl
    rw [this] at hx
    by_cases e : x = h.next
    · rw [if_pos e] at hx; simp only [Option.some.injEq] at hx; exact .inl ⟨e, hx.symm⟩
    · rw [if_neg e, Heap.get_kill] at hx
      by_cases e' : x = b
      · rw [if_pos e'] at hx; cases hx
      · rw [if_neg e'] at hx; exact .inr ⟨e, e', hx⟩
  have other : ∀ x y c M, x ≠ b → h.get x = some y → ι x = some (c, M) → c ≠ cb := by
    intro x y c M hx hy hc e
    subst e
    exact hx (r.inj x b y o c M N hy hb hc hi)
  refine ⟨⟨?_, ?_, ?_, ?_⟩, ?_, Nat.le_succ _, ?_, by omega, r.lt, ?_, ht, ho, hp, fun x y hx hlt => ?_, fun x k es l c M hx hι ho' n _ V => ?_⟩
  rotate_left 7
  · rcases g x y hx with ⟨e, _⟩ | ⟨_, _, hx⟩
    · omega
    · exact ⟨y, hx, SamK.refl y⟩
  · obtain ⟨y, hy⟩ := ho'
    have hlt := r.lt x _ hx
    rcases g x y hy with ⟨e, _⟩ | ⟨_, e', _⟩
    · omega
    · exact HasM.same (hw c (other x _ c M e' hx hι)) k n V
  · intro x y hx
    show x < h.next + 1
    rcases g x y hx with ⟨e, _⟩ | ⟨_, _, hx⟩
    · omega
    · have := r.lt x y hx; omega
  · intro x y hx
    rcases g x y hx with ⟨e, rfl⟩ | ⟨e, e', hx⟩
    · exact ⟨cb, N, by simp only [if_pos e], hr⟩
    · obtain ⟨c, M, h1, h2⟩ := r.obj x y hx
      exact ⟨c, M, by simp only [if_neg e]; exact h1, OR.mono hs (hw c (other x y c M e' hx h1)) h2⟩
  · intro x x' y y' c M M' hx hx' h1 h2
    rcases g x y hx with ⟨e, _⟩ | ⟨e, e', hx⟩ <;> rcases g x' y' hx' with ⟨k, _⟩ | ⟨k, k', hx'⟩
    · omega
    · rw [if_pos e] at h1; rw [if_neg k] at h2
      simp only [Option.some.injEq, Prod.mk.injEq] at h1
      exact absurd h1.1.symm (other x' y' c M' k' hx' h2)
    · rw [if_neg e] at h1; rw [if_pos k] at h2
      simp only [Option.some.injEq, Prod.mk.injEq] at h2
      exact absurd h2.1.symm (other x y c M e' hx h1)
    · rw [if_neg e] at h1; rw [if_neg k] at h2
      exact r.inj x x' y y' c M M' hx hx' h1 h2
  · intro x c M h1
    by_cases e : x = h.next
    · rw [if_pos e] at h1; simp only [Option.some.injEq, Prod.mk.injEq] at h1; omega
    · rw [if_neg e] at h1; have := r.dom x c M h1; omega
  · intro x hx
    have : x ≠ h.next := by
      rcases hx with hx | hx
      · omega
      · have : h.next + 1 ≤ x := hx; omega
    simp only [if_neg this]
  · intro c _ hno
    apply hw
    intro e; subst e
    exact hno b o N hb hi
  · intro x y c M hx h1
    rcases g x y hx with ⟨e, _⟩ | ⟨e, e', hx⟩
    · rw [if_pos e] at h1; simp only [Option.some.injEq, Prod.mk.injEq] at h1
      obtain ⟨rfl, rfl⟩ := h1
      exact .inl ⟨b, o, N, hb, hi⟩
    · rw [if_neg e] at h1; exact .inl ⟨x, y, M, hx, h1⟩

end Go.Proofs.YtmjogmpgamlhaaaGreat.Dm
