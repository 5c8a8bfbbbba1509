/- How abstract values and heaps stand to the model's. -/
import Derived.Test.YtndbccpaccflcaaGreatDmEx
import Derived.Laws.Sem
set_option linter.unusedVariables false
set_option linter.unusedSimpArgs false
set_option linter.unusedSectionVars false
namespace Go.Proofs.YtndbccpaccflcaaGreat.Dm
open Go

abbrev Io := Nat → Option (Nat × Nat)

noncomputable def PRs (ι : Io) : List (Nat × Nat) → List Value → Prop
  | [], [] => True
  | (b, o) :: l, v :: r => (∃ cb N, ι b = some (cb, N) ∧ v = .pointer (some ⟨cb, o, none⟩)) ∧ PRs ι l r
  | _, _ => False

noncomputable def SlOk (len o cap z : Nat) (ex : Bool) (N o' capc : Nat) : Prop :=
  len ≤ cap ∧ (ex = true → o' = o ∧ capc = cap) ∧ (ex = false → cap ≤ capc ∧ (cap = 0 ∨ o' = o) ∧ o' + capc * z ≤ N)

noncomputable def VR (ι : Io) : SV → Value → Prop
  | .b x, v => v = .bool x
  | .i k n, v => v = .int k n
  | .f x, v => v = .float .f64 x
  | .c x y, v => v = .complex .f64 x y
  | .s l, v => ∃ s : ByteArray, v = .string s ∧ s.data.toList.map (·.toNat) = l
  | .np, v => v = .pointer none
  | .p b o, v => ∃ cb N, ι b = some (cb, N) ∧ v = .pointer (some ⟨cb, o, none⟩)
  | .nsl, v => v = .slice none 0 0
  | .sl b o len cap z ex, v => ∃ cb N o' capc, ι b = some (cb, N) ∧ v = .slice (some ⟨cb, o', none⟩) len capc ∧ SlOk len o cap z ex N o' capc
  | .nm, v => v = .map none
  | .m r, v => ∃ cb N, ι r = some (cb, N) ∧ v = .map (some cb)
  | .nfn, v => v = .nilFunc
  | .fn f l c, v => ∃ vl vc : Array Value, v = .func (.func f) vl vc ∧ PRs ι l vl.toList ∧ PRs ι c vc.toList

noncomputable def Rs (ι : Io) : List SV → List Value → Prop
  | [], [] => True
  | x :: l, v :: r => VR ι x v ∧ Rs ι l r
  | _, _ => False

noncomputable def CVR (ι : Io) : CV → Value → Prop
  | .sc x, v => VR ι x v
  | .ag l, v => ∃ a : Array Value, v = .agg a ∧ Rs ι l a.toList

noncomputable def CRs (ι : Io) : List CV → List Value → Prop
  | [], [] => True
  | x :: l, v :: r => CVR ι x v ∧ CRs ι l r
  | _, _ => False

noncomputable def AVR (ι : Io) : AV → Value → Prop
  | .cv x, v => CVR ι x v
  | .tu l, v => ∃ a : Array Value, v = .tuple a ∧ CRs ι l a.toList

noncomputable def ARs (ι : Io) : List AV → List Value → Prop
  | [], [] => True
  | x :: l, v :: r => AVR ι x v ∧ ARs ι l r
  | _, _ => False

noncomputable def MR (ι : Io) (e : ME) (c : MapEntry) : Prop := CVR ι e.key c.key ∧ CVR ι e.val c.val ∧ c.born = e.born

noncomputable def MRs (ι : Io) : List ME → List MapEntry → Prop
  | [], [] => True
  | x :: l, v :: r => MR ι x v ∧ MRs ι l r
  | _, _ => False

noncomputable def OR (ι : Io) (o : AO) (cb N : Nat) (w : World) : Prop :=
  match o with
  | .cells r ro => ∃ cs el fr, w.heap[cb]? = some (.cells cs el fr) ∧ cs.size = N ∧ r.n ≤ N ∧
      (∀ i v, r.get i = some v → ∃ V, cs[i]? = some V ∧ VR ι v V) ∧ (ro = false → fr.1 = fr.2 ∨ N ≤ fr.1)
  | .map es ck => ∃ ces : Array MapEntry, w.heap[cb]? = some (.map ces ck) ∧ MRs ι es ces.toList
  | .it m since seen st => ∃ m' : Option Nat, w.heap[cb]? = some (.mapIter m' since seen.toArray st) ∧
      (match m, m' with | none, none => True | some r, some c => ∃ N, ι r = some (c, N) | _, _ => False)

structure Rep (ι : Io) (w : World) (h : Heap) : Prop where
  lt : ∀ b o, h.get b = some o → b < h.next
  obj : ∀ b o, h.get b = some o → ∃ cb N, ι b = some (cb, N) ∧ OR ι o cb N w
  inj : ∀ b b' o o' c N N', h.get b = some o → h.get b' = some o' → ι b = some (c, N) → ι b' = some (c, N') → b = b'
  dom : ∀ b c N, ι b = some (c, N) → c < w.heap.size

/-- What a piece of a run leaves. -/
structure Post (ι : Io) (h h' : Heap) (w w' : World) (ι' : Io) : Prop where
  rep : Rep ι' w' h'
  ext : ∀ b, (b < h.next ∨ h'.next ≤ b) → ι' b = ι b
  le : h.next ≤ h'.next
  frame : ∀ c, c < w.heap.size → (∀ b o N, h.get b = some o → ι b ≠ some (c, N)) → w'.heap[c]? = w.heap[c]?
  size : w.heap.size ≤ w'.heap.size
  fresh : ∀ b o c N, h'.get b = some o → ι' b = some (c, N) → (∃ b0 o0 N0, h.get b0 = some o0 ∧ ι b0 = some (c, N0)) ∨ w.heap.size ≤ c
  tape : w'.tape = w.tape
  os : w'.os = w.os
  output : w'.output = w.output

noncomputable def Free (ι : Io) (n n' : Nat) : Prop := ∀ b, n ≤ b → b < n' → ι b = none

noncomputable def Sub (ι ι' : Io) : Prop := ∀ b p, ι b = some p → ι' b = some p

theorem Sub.refl (ι : Io) : Sub ι ι := fun _ _ h => h
theorem Sub.trans {a b c : Io} (h : Sub a b) (k : Sub b c) : Sub a c := fun x p hx => k x p (h x p hx)

theorem Post.sub {ι ι' : Io} {h h' : Heap} {w w' : World} (p : Post ι h h' w w' ι') (hf : Free ι h.next h'.next) : Sub ι ι' := by
  intro b x hb
  by_cases h1 : b < h.next
  · rw [p.ext b (.inl h1)]; exact hb
  · by_cases h2 : h'.next ≤ b
    · rw [p.ext b (.inr h2)]; exact hb
    · rw [hf b (by omega) (by omega)] at hb; cases hb

section mono
variable {ι ι' : Io} (hs : Sub ι ι')
include hs

theorem PRs.mono : ∀ {l : List (Nat × Nat)} {r : List Value}, PRs ι l r → PRs ι' l r
  | [], [], _ => trivial
  | [], _ :: _, h => h.elim
  | _ :: _, [], h => h.elim
  | (b, o) :: l, v :: r, ⟨⟨cb, N, hb, hv⟩, h⟩ => ⟨⟨cb, N, hs _ _ hb, hv⟩, PRs.mono h⟩

theorem VR.mono {x : SV} {v : Value} (h : VR ι x v) : VR ι' x v := by
  cases x with
  | p b o => obtain ⟨cb, N, hb, hv⟩ := h; exact ⟨cb, N, hs _ _ hb, hv⟩
  | sl b o len cap z ex => obtain ⟨cb, N, o', c, hb, hv⟩ := h; exact ⟨cb, N, o', c, hs _ _ hb, hv⟩
  | m r => obtain ⟨cb, N, hb, hv⟩ := h; exact ⟨cb, N, hs _ _ hb, hv⟩
  | fn f l c => obtain ⟨vl, vc, hv, h1, h2⟩ := h; exact ⟨vl, vc, hv, PRs.mono hs h1, PRs.mono hs h2⟩
  | _ => exact h

theorem Rs.mono : ∀ {l : List SV} {r : List Value}, Rs ι l r → Rs ι' l r
  | [], [], _ => trivial
  | [], _ :: _, h => h.elim
  | _ :: _, [], h => h.elim
  | _ :: _, _ :: _, ⟨a, b⟩ => ⟨VR.mono hs a, Rs.mono b⟩

theorem CVR.mono {x : CV} {v : Value} (h : CVR ι x v) : CVR ι' x v := by
  cases x with
  | sc x => exact VR.mono hs h
  | ag l => obtain ⟨a, hv, h⟩ := h; exact ⟨a, hv, Rs.mono hs h⟩

theorem CRs.mono : ∀ {l : List CV} {r : List Value}, CRs ι l r → CRs ι' l r
  | [], [], _ => trivial
  | [], _ :: _, h => h.elim
  | _ :: _, [], h => h.elim
  | _ :: _, _ :: _, ⟨a, b⟩ => ⟨CVR.mono hs a, CRs.mono b⟩

theorem AVR.mono {x : AV} {v : Value} (h : AVR ι x v) : AVR ι' x v := by
  cases x with
  | cv x => exact CVR.mono hs h
  | tu l => obtain ⟨a, hv, h⟩ := h; exact ⟨a, hv, CRs.mono hs h⟩

theorem MRs.mono : ∀ {l : List ME} {r : List MapEntry}, MRs ι l r → MRs ι' l r
  | [], [], _ => trivial
  | [], _ :: _, h => h.elim
  | _ :: _, [], h => h.elim
  | _ :: _, _ :: _, ⟨⟨a, c, d⟩, b⟩ => ⟨⟨CVR.mono hs a, CVR.mono hs c, d⟩, MRs.mono b⟩

theorem OR.mono {o : AO} {cb N : Nat} {w w' : World} (hw : w'.heap[cb]? = w.heap[cb]?) (h : OR ι o cb N w) : OR ι' o cb N w' := by
  cases o with
  | cells r ro =>
    obtain ⟨cs, el, fr, h1, h2, h3, h4, h5⟩ := h
    exact ⟨cs, el, fr, hw.trans h1, h2, h3, fun i v hi => let ⟨V, a, b⟩ := h4 i v hi; ⟨V, a, VR.mono hs b⟩, h5⟩
  | map es ck => obtain ⟨ces, h1, h2⟩ := h; exact ⟨ces, hw.trans h1, MRs.mono hs h2⟩
  | it m since seen st =>
    obtain ⟨m', h1, h2⟩ := h
    refine ⟨m', hw.trans h1, ?_⟩
    cases m <;> cases m' <;> simp only [] at h2 ⊢
    obtain ⟨N, h2⟩ := h2
    exact ⟨N, hs _ _ h2⟩
end mono

theorem Rs.length : ∀ {ι : Io} {l : List SV} {r : List Value}, Rs ι l r → l.length = r.length
  | _, [], [], _ => rfl
  | _, [], _ :: _, h => h.elim
  | _, _ :: _, [], h => h.elim
  | _, _ :: _, _ :: _, ⟨_, b⟩ => by simp [Rs.length b]

theorem Rs.get : ∀ {ι : Io} {l : List SV} {r : List Value} {i : Nat} {x : SV}, Rs ι l r → l[i]? = some x → ∃ v, r[i]? = some v ∧ VR ι x v
  | _, [], [], _, _, _, h => by simp at h
  | _, [], _ :: _, _, _, h, _ => h.elim
  | _, _ :: _, [], _, _, h, _ => h.elim
  | _, _ :: _, v :: _, 0, _, ⟨a, _⟩, h => by simp at h; subst h; exact ⟨v, rfl, a⟩
  | _, _ :: _, _ :: _, i + 1, _, ⟨_, b⟩, h => by simp at h; simpa using Rs.get b h

theorem Rs.append : ∀ {ι : Io} {l l' : List SV} {r r' : List Value}, Rs ι l r → Rs ι l' r' → Rs ι (l ++ l') (r ++ r')
  | _, [], _, [], _, _, h => h
  | _, [], _, _ :: _, _, h, _ => h.elim
  | _, _ :: _, _, [], _, h, _ => h.elim
  | _, _ :: _, _, _ :: _, _, ⟨a, b⟩, h => ⟨a, Rs.append b h⟩

theorem Rs.take : ∀ {ι : Io} {l : List SV} {r : List Value} (n : Nat), Rs ι l r → Rs ι (l.take n) (r.take n)
  | _, [], [], n, _ => by simp [Rs]
  | _, [], _ :: _, _, h => h.elim
  | _, _ :: _, [], _, h => h.elim
  | _, _ :: _, _ :: _, 0, _ => by simp [Rs]
  | _, _ :: _, _ :: _, n + 1, ⟨a, b⟩ => ⟨a, Rs.take n b⟩

theorem Rs.drop : ∀ {ι : Io} {l : List SV} {r : List Value} (n : Nat), Rs ι l r → Rs ι (l.drop n) (r.drop n)
  | _, [], [], n, _ => by simp [Rs]
  | _, [], _ :: _, _, h => h.elim
  | _, _ :: _, [], _, h => h.elim
  | _, _ :: _, _ :: _, 0, h => h
  | _, _ :: _, _ :: _, n + 1, ⟨_, b⟩ => Rs.drop n b

theorem CRs.get : ∀ {ι : Io} {l : List CV} {r : List Value} {i : Nat} {x : CV}, CRs ι l r → l[i]? = some x → ∃ v, r[i]? = some v ∧ CVR ι x v
  | _, [], [], _, _, _, h => by simp at h
  | _, [], _ :: _, _, _, h, _ => h.elim
  | _, _ :: _, [], _, _, h, _ => h.elim
  | _, _ :: _, v :: _, 0, _, ⟨a, _⟩, h => by simp at h; subst h; exact ⟨v, rfl, a⟩
  | _, _ :: _, _ :: _, i + 1, _, ⟨_, b⟩, h => by simp at h; simpa using CRs.get b h

theorem VR.one {ι : Io} {x : SV} {v : Value} (h : VR ι x v) : v.oneCell' = true := by
  cases x <;> simp only [VR] at h
  case s l => obtain ⟨s, rfl, _⟩ := h; rfl
  case p b o => obtain ⟨_, _, _, rfl⟩ := h; rfl
  case sl => obtain ⟨_, _, _, _, _, rfl, _⟩ := h; rfl
  case m => obtain ⟨_, _, _, rfl⟩ := h; rfl
  case fn => obtain ⟨_, _, rfl, _⟩ := h; rfl
  all_goals (subst h; rfl)

theorem VR.cells {ι : Io} {x : SV} {v : Value} (h : VR ι x v) : v.cells = #[v] := by
  have := VR.one h
  cases v <;> simp_all [Value.oneCell', Value.cells]

theorem CVR.cells {ι : Io} {x : CV} {v : Value} (h : CVR ι x v) : Rs ι x.cells v.cells.toList := by
  cases x with
  | sc x => rw [VR.cells h]; exact ⟨h, trivial⟩
  | ag l => obtain ⟨a, rfl, h⟩ := h; exact h

theorem Rs.one : ∀ {ι : Io} {l : List SV} {r : List Value}, Rs ι l r → ∀ v ∈ r, v.oneCell' = true
  | _, [], [], _, _, h => by simp at h
  | _, [], _ :: _, h, _, _ => h.elim
  | _, _ :: _, [], h, _, _ => h.elim
  | _, _ :: _, _ :: _, ⟨a, b⟩, v, hv => by
    rcases List.mem_cons.1 hv with rfl | hv
    · exact VR.one a
    · exact Rs.one b v hv

/-! ### a piece behind a piece -/

theorem Rep.same {ι : Io} {w w' : World} {h : Heap} (r : Rep ι w h) (hs : ∀ c, c < w.heap.size → w'.heap[c]? = w.heap[c]?) (hz : w.heap.size ≤ w'.heap.size) : Rep ι w' h :=
  ⟨r.lt, fun b o hb => let ⟨cb, N, h1, h2⟩ := r.obj b o hb; ⟨cb, N, h1, OR.mono (Sub.refl ι) (hs cb (r.dom b cb N h1)) h2⟩, r.inj, fun b c N hb => Nat.lt_of_lt_of_le (r.dom b c N hb) hz⟩

theorem Post.refl {ι : Io} {h : Heap} {w : World} (r : Rep ι w h) : Post ι h h w w ι :=
  ⟨r, fun _ _ => rfl, Nat.le_refl _, fun _ _ _ => rfl, Nat.le_refl _, fun b o c N h k => .inl ⟨b, o, N, h, k⟩, rfl, rfl, rfl⟩

theorem Post.trans {ι ι' ι'' : Io} {h h' h'' : Heap} {w w' w'' : World} (p : Post ι h h' w w' ι') (q : Post ι' h' h'' w' w'' ι'') : Post ι h h'' w w'' ι'' where
  rep := q.rep
  ext b hb := by
    have := p.le; have := q.le
    rcases hb with hb | hb
    · rw [q.ext b (.inl (by omega)), p.ext b (.inl hb)]
    · rw [q.ext b (.inr hb), p.ext b (.inr (by omega))]
  le := Nat.le_trans p.le q.le
  frame c hc hno := by
    rw [q.frame c (Nat.lt_of_lt_of_le hc p.size), p.frame c hc hno]
    intro b o N hb he
    rcases p.fresh b o c N hb he with ⟨b0, o0, N0, h0, h1⟩ | h1
    · exact hno b0 o0 N0 h0 h1
    · omega
  size := Nat.le_trans p.size q.size
  fresh b o c N hb he := by
    rcases q.fresh b o c N hb he with ⟨b0, o0, N0, h0, h1⟩ | h1
    · exact p.fresh b0 o0 c N0 h0 h1
    · exact .inr (Nat.le_trans p.size h1)
  tape := q.tape.trans p.tape
  os := q.os.trans p.os
  output := q.output.trans p.output

theorem Post.free {ι ι' : Io} {h h' : Heap} {w w' : World} (p : Post ι h h' w w' ι') {n : Nat} (hf : Free ι h.next n) : Free ι' h'.next n := by
  intro b hb hn
  have := p.le
  rw [p.ext b (.inr hb)]
  exact hf b (by omega) hn

theorem Free.mono {ι : Io} {a b c : Nat} (h : Free ι a c) (hb : b ≤ c) : Free ι a b := fun x hx hn => h x hx (by omega)

end Go.Proofs.YtndbccpaccflcaaGreat.Dm
