/- 'refresh', 'Collect' and 'Unlog', walked. -/
import Derived.Test.YtcdjgnpjapgoaaaGreatRK
import Derived.Test.YtcdjgnpjapgoaaaGreatRKC0
import Derived.Test.YtcdjgnpjapgoaaaGreatRKC4
import Derived.Test.YtcdjgnpjapgoaaaGreatRKP0
import Derived.Test.YtcdjgnpjapgoaaaGreatRKP4
set_option linter.unusedVariables false
set_option linter.unusedSimpArgs false
set_option linter.unusedSectionVars false
namespace Go.Proofs.YtcdjgnpjapgoaaaGreat
open Go Go.RowKit Go.Lib Go.Proofs.YtcdjgnpjapgoaaaGreat.Dm

noncomputable def bv (b : Bool) : Nat := cnd b 195 67

/-- A name's number. -/
def AtK (ι : Io) (id n : Nat) : Prop := ∃ c, ι (atomKey id) = some (c, n)

/-- The machine's places that are asked for: the core, guest 1's table, pages and log. -/
structure Pl where
  cb : Nat
  tb : Nat
  pg : Nat
  lg : Nat

structure Has (ι : Io) (A : Nat → Prop) (p : Pl) (g : Heap) (w : World) : Prop where
  rep : Rep ι w g
  c : ∃ N, ι 11 = some (p.cb, N)
  t : ∃ N, ι 200 = some (p.tb, N)
  pg : ∃ N, ι 202 = some (p.pg, N)
  l : ∃ N, ι 204 = some (p.lg, N)
  free : Free ι 10000 (atomKey 0)
  le : ∀ id n, AtK ι id n → n ≤ 255
  no : ∀ b o c N, g.get b = some o → ι b = some (c, N) → ¬ A c

/-- The log is on (lg) or off; what its words have (none: no word); which pages may be written. -/
noncomputable def wsL : Option (Nat → Bool) → List ME
  | none => w0
  | some _ => wA
def Wl (A : Nat → Prop) (p : Pl) (lg : Bool) (ws : Option (Nat → Bool)) (tb : Nat → Bool) (w : World) : Prop :=
  ∃ ι, Has ι A p (stt lg (wsL ws) atB) w ∧ (∀ j, j < 8 → AtK ι (10 + j) (bv (tb j))) ∧ ∀ f, ws = some f → ∃ n, AtK ι 0 n ∧ n < 256 ∧ ∀ j, j < 8 → n.testBit j = f j

/-- What a call keeps. -/
structure Kp (A : Nat → Prop) (w w' : World) : Prop where
  os : w'.os = w.os
  tape : w'.tape = w.tape
  output : w'.output = w.output
  size : w.heap.size ≤ w'.heap.size
  block : ∀ c, A c → w'.heap[c]? = w.heap[c]?

theorem l_of {g : Heap} {L : List Nat} (hp : pick g.t L = g.t) {b : Nat} {o : AO} (h : g.get b = some o) : b ∈ L := by
  refine pick_mem (t := g.t) (o := o) ?_
  rw [hp]; exact h

theorem stt_next (lg : Bool) (ws : List ME) (f : Nat → SV) : (stt lg ws f).next = 10000 := rfl

/-! ### names behind a call -/

noncomputable def upV (u : Up) (v : Nat) : Nat := match u with
  | .keep => v
  | .set n => n
  | .orB k => v ||| 2 ^ k
/-- Names behind a call: blocks by σ, numbers by α (those that are not yet there: by their setting). -/
noncomputable def io3 (σ : Nat → Nat) (α : Nat → Up) (c0 : Nat) (ι : Io) : Io := fun b =>
  if b < 10000 then ι (σ b) else if atomKey 0 ≤ b then (match ι b with
    | some (c, v) => some (c, upV (α (b - atomKey 0)) v)
    | none => (match α (b - atomKey 0) with
      | .set n => some (c0, n)
      | _ => none)) else none

theorem io3_lt {σ : Nat → Nat} {α : Nat → Up} {c0 : Nat} {ι : Io} {b : Nat} (h : b < 10000) : io3 σ α c0 ι b = ι (σ b) := if_pos h
theorem io3_at {σ : Nat → Nat} {α : Nat → Up} {c0 : Nat} {ι : Io} (id : Nat) : io3 σ α c0 ι (atomKey id) = match ι (atomKey id) with
    | some (c, v) => some (c, upV (α id) v)
    | none => (match α id with
      | .set n => some (c0, n)
      | _ => none) := by
  unfold io3
  have e1 : ¬ atomKey id < 10000 := by show ¬ 1000000000000 + id < 10000; omega
  have e2 : atomKey 0 ≤ atomKey id := Nat.add_le_add_left (Nat.zero_le id) _
  have e3 : atomKey id - atomKey 0 = id := by show 1000000000000 + id - (1000000000000 + 0) = id; omega
  rw [if_neg e1, if_pos e2, e3]

theorem sg_lt {a b x : Nat} (h1 : x ≠ 9001) (h2 : x ≠ 9002) : sgN a b x = x := by
  unfold sgN
  have e : ∀ y, x ≠ y → Nat.beq x y = false := fun y h => by
    cases hb : Nat.beq x y with
    | false => rfl
    | true => exact absurd (Nat.eq_of_beq_eq_true hb) h
  rw [e _ h1, e _ h2]
  rfl

/-- The step: what a checked run makes of a state. -/
theorem step_u {g g' : Heap} {f : FuncId} {args : List AV} {σ : Nat → Nat} {α : Nat → Up} {v : AV} {h : Heap} (hg10 : g.next = 10000) (hg : g'.next = 10000) (hp : pick g'.t baseL = g'.t) (hr : evN f args g = .ok v h) (hn : Nat.ble h.next (atomKey 0) = true)
    (hi : injL (mapN σ baseL) = true) (hc : mtF (svU σ α 10000) σ 10000 h.t g'.t baseL = true) (s1 : σ 11 = 11) (s2 : σ 200 = 200) (s3 : σ 202 = 202) (s4 : σ 204 = 204)
    {A : Nat → Prop} {p : Pl} {w : World} {ι : Io} (hA : ∀ c, A c → c < w.heap.size) (hw : Has ι A p g w)
    (hs : ∀ id u, isSet (α id) u = true → u ≤ 255) (ho : ∀ id k, isOr (α id) k = true → ∀ n, AtK ι id n → n ||| 2 ^ k ≤ 255)
    {vs : Array Value} (has : ARs ι args vs.toList) :
    Calls Tryz.prog f vs w fun e w' => ∃ V ι1, e = .returned V ∧ AVR ι1 v V ∧ (∀ b, b < 10000 → ι1 b = ι b) ∧ Rep ι1 w' h ∧ Has (io3 σ α p.cb ι1) A p g' w' ∧ (∀ id, ι1 (atomKey id) = ι (atomKey id)) ∧ Kp A w w' ∧
      (∀ b o c N, h.get b = some o → ι1 b = some (c, N) → (∃ b0 o0 N0, g.get b0 = some o0 ∧ ι b0 = some (c, N0)) ∨ w.heap.size ≤ c) := by
  obtain ⟨hE, hle, hx⟩ := (evG_ok 600).2 f args g v h hr
  have hn := Nat.le_of_ble_eq_true hn
  have hfr : Free ι g.next (atomKey 0) := by rw [hg10]; exact hw.free
  refine (hx ι w vs hw.rep has (hfr.mono hn)).mono ?_
  rintro e w' ⟨V, ι1, rfl, hv, q⟩
  have lo : ∀ b, b < 10000 → ι1 b = ι b := fun b hb => q.ext b (.inl (by rw [hg10]; exact hb))
  have up : ∀ id, ι1 (atomKey id) = ι (atomKey id) := fun id => q.ext _ (.inr (Nat.le_trans hn (Nat.add_le_add_left (Nat.zero_le id) _)))
  have m : Mu ι1 (io3 σ α p.cb ι1) σ α 10000 := by
    refine ⟨fun b hb => io3_lt hb, fun id h1 c u h2 => ?_, fun id u h1 => ?_, fun id k h1 c u h2 => ?_⟩
    · refine ⟨hw.le id u ⟨c, by rw [← up]; exact h2⟩, c, ?_⟩
      rw [io3_at, h2]
      cases ha : α id <;> rw [ha] at h1 <;> first | rfl | cases h1
    · have ha : α id = .set u := by
        cases ha : α id with
        | set n => rw [ha] at h1; rw [Nat.eq_of_beq_eq_true (show Nat.beq n u = true from h1)]
        | keep => rw [ha] at h1; cases h1
        | orB k => rw [ha] at h1; cases h1
      rw [io3_at, ha]
      cases ι1 (atomKey id) with
      | none => exact ⟨_, rfl⟩
      | some x => exact ⟨x.1, rfl⟩
    · refine ⟨ho id k h1 u ⟨c, by rw [← up]; exact h2⟩, c, ?_⟩
      rw [io3_at, h2]
      cases ha : α id with
      | orB n => rw [ha] at h1; rw [Nat.eq_of_beq_eq_true (show Nat.beq n k = true from h1)]; rfl
      | keep => rw [ha] at h1; cases h1
      | set k => rw [ha] at h1; cases h1
  obtain ⟨Nc, hcb⟩ := hw.c
  have hcbw := q.rep.dom _ _ _ (show ι1 11 = some (p.cb, Nc) by rw [lo 11 (by omega)]; exact hcb)
  have hdom : ∀ b c N, io3 σ α p.cb ι1 b = some (c, N) → c < w'.heap.size := by
    intro b c N hb
    unfold io3 at hb
    split at hb
    · exact q.rep.dom _ _ _ hb
    · split at hb
      · split at hb
        · rename_i c1 r1 he
          simp only [Option.some.injEq, Prod.mk.injEq] at hb
          obtain ⟨rfl, _⟩ := hb
          exact q.rep.dom _ _ _ he
        · split at hb
          · simp only [Option.some.injEq, Prod.mk.injEq] at hb
            rw [← hb.1]; exact hcbw
          · cases hb
      · cases hb
  refine ⟨V, ι1, rfl, hv, lo, q.rep, ⟨Rep.mf q.rep (fun b hb => io3_lt (by rw [hg] at hb; exact hb)) (svU_sound m) (fun b o hb => l_of hp hb) hdom hi (by rw [hg]; exact hc), ?_, ?_, ?_, ?_, ?_, ?_, ?_⟩, up, ⟨q.os, q.tape, q.output, q.size, fun c hAc => q.frame c (hA c hAc) (fun b o N hb hι => hw.no b o c N hb hι hAc)⟩, q.fresh⟩
  · obtain ⟨N, h1⟩ := hw.c; exact ⟨N, by rw [io3_lt (by omega), s1, lo 11 (by omega)]; exact h1⟩
  · obtain ⟨N, h1⟩ := hw.t; exact ⟨N, by rw [io3_lt (by omega), s2, lo 200 (by omega)]; exact h1⟩
  · obtain ⟨N, h1⟩ := hw.pg; exact ⟨N, by rw [io3_lt (by omega), s3, lo 202 (by omega)]; exact h1⟩
  · obtain ⟨N, h1⟩ := hw.l; exact ⟨N, by rw [io3_lt (by omega), s4, lo 204 (by omega)]; exact h1⟩
  · intro b hb hb'
    unfold io3
    rw [if_neg (by omega), if_neg (by omega)]
  · rintro id n ⟨c, hn⟩
    rw [io3_at, up] at hn
    cases hι : ι (atomKey id) with
    | none =>
      rw [hι] at hn
      cases ha : α id with
      | set k =>
        rw [ha] at hn
        simp only [Option.some.injEq, Prod.mk.injEq] at hn
        rw [← hn.2]
        exact hs id k (by rw [ha]; exact Nat.beq_refl _)
      | keep => rw [ha] at hn; cases hn
      | orB k => rw [ha] at hn; cases hn
    | some x =>
      rw [hι] at hn
      simp only [Option.some.injEq, Prod.mk.injEq] at hn
      rw [← hn.2]
      cases ha : α id with
      | set k => exact hs id k (by rw [ha]; exact Nat.beq_refl _)
      | keep => exact hw.le id x.2 ⟨x.1, hι⟩
      | orB k => exact ho id k (by rw [ha]; exact Nat.beq_refl _) x.2 ⟨x.1, hι⟩
  · intro b o c N hb hι hAc
    obtain ⟨k1, x, y, k2, k3, k4⟩ := mtF_get hc b (l_of hp hb)
    rw [io3_lt k1] at hι
    rcases q.fresh (σ b) x c N k2 hι with ⟨b0, o0, N0, g1, g2⟩ | hh
    · exact hw.no b0 o0 c N0 g1 g2 hAc
    · have := hA c hAc; omega

theorem sgs (t : Tr AO) : sgN (rowB t) (wmB t) 11 = 11 ∧ sgN (rowB t) (wmB t) 200 = 200 ∧ sgN (rowB t) (wmB t) 202 = 202 ∧ sgN (rowB t) (wmB t) 204 = 204 :=
  ⟨sg_lt (by decide) (by decide), sg_lt (by decide) (by decide), sg_lt (by decide) (by decide), sg_lt (by decide) (by decide)⟩

/-- What 'chkU' says of a call. -/
theorem chkU_step {f : FuncId} {args : List AV} {g g' : Heap} {ok : AV → Bool} {α : Nat → Up} (hck : chkU evN f args g ok g' α = true) (hg10 : g.next = 10000) (hg : g'.next = 10000) (hp : pick g'.t baseL = g'.t)
    {A : Nat → Prop} {p : Pl} {w : World} {ι : Io} (hA : ∀ c, A c → c < w.heap.size) (hw : Has ι A p g w)
    (hs : ∀ id u, isSet (α id) u = true → u ≤ 255) (ho : ∀ id k, isOr (α id) k = true → ∀ n, AtK ι id n → n ||| 2 ^ k ≤ 255)
    {vs : Array Value} (has : ARs ι args vs.toList) :
    Calls Tryz.prog f vs w fun e w' => ∃ V ι1 v ι2, e = .returned V ∧ ok v = true ∧ AVR ι1 v V ∧ (∀ b, b < 10000 → ι1 b = ι b) ∧ Has ι2 A p g' w' ∧ (∀ id, ι2 (atomKey id) = match ι (atomKey id) with
      | some (c, v) => some (c, upV (α id) v)
      | none => (match α id with
        | .set n => some (p.cb, n)
        | _ => none)) ∧ Kp A w w' := by
  unfold chkU at hck
  split at hck
  · rename_i v h hr
    simp only [Bool.and_eq_true] at hck
    obtain ⟨h1, h2, h3, h4⟩ := hck
    obtain ⟨s1, s2, s3, s4⟩ := sgs h.t
    refine (step_u hg10 hg hp hr h2 h3 h4 s1 s2 s3 s4 hA hw hs ho has).mono ?_
    rintro e w' ⟨V, ι1, rfl, hv, lo, hr1, hH, up, hkp, -⟩
    exact ⟨V, ι1, v, _, rfl, h1, hv, lo, hH, fun id => by rw [io3_at, up], hkp⟩
  · cases hck
end Go.Proofs.YtcdjgnpjapgoaaaGreat

set_option maxRecDepth 20000
namespace Go.Proofs.YtcdjgnpjapgoaaaGreat
open Go Go.RowKit Go.Lib Go.Proofs.YtcdjgnpjapgoaaaGreat.Dm

theorem rowF_get (f : Nat → SV) (i : Nat) : (rowF f).t.get i = if i = 56 then some (f 7) else if i = 48 then some (f 6) else if i = 40 then some (f 5) else if i = 32 then some (f 4) else if i = 24 then some (f 3) else if i = 16 then some (f 2) else if i = 8 then some (f 1) else if i = 0 then some (f 0) else rowBase.t.get i := by
  unfold rowF
  simp only [Tr.get_put]

theorem row_or {ι : Io} {cb N : Nat} {w : World} {f f' : Nat → SV} (h : OR ι (.cells (rowF f) false) cb N w) (hv : ∀ j, j < 8 → ∀ V, VR ι (f j) V → VR ι (f' j) V) : OR ι (.cells (rowF f') false) cb N w := by
  obtain ⟨cs, el, fr, g1, g2, g3, g4, g5⟩ := h
  refine ⟨cs, el, fr, g1, g2, g3, fun i v hi => ?_, g5⟩
  have hn : ∀ f, (rowF f).get i = cnd (Nat.blt i 4096) (match (rowF f).t.get i with | some v => some v | none => some (.i .u8 (.ofNat 0))) none := fun f => rfl
  have h4 := g4 i
  rw [hn] at hi h4
  cases hb : Nat.blt i 4096 with
  | false => rw [hb] at hi; cases hi
  | true =>
    rw [hb] at hi h4
    simp only [cnd_true, rowF_get] at hi h4
    have key : ∀ j, j < 8 → (∀ u, some (f j) = some u → ∃ V, cs[i]? = some V ∧ VR ι u V) → some (f' j) = some v → ∃ V, cs[i]? = some V ∧ VR ι v V := by
      intro j hj h1 h2
      obtain ⟨V, e1, e2⟩ := h1 _ rfl
      exact ⟨V, e1, Option.some.inj h2 ▸ hv j hj V e2⟩
    by_cases a7 : i = 56
    · rw [if_pos a7] at hi h4; exact key 7 (by omega) h4 hi
    by_cases a6 : i = 48
    · rw [if_neg a7, if_pos a6] at hi h4; exact key 6 (by omega) h4 hi
    by_cases a5 : i = 40
    · rw [if_neg a7, if_neg a6, if_pos a5] at hi h4; exact key 5 (by omega) h4 hi
    by_cases a4 : i = 32
    · rw [if_neg a7, if_neg a6, if_neg a5, if_pos a4] at hi h4; exact key 4 (by omega) h4 hi
    by_cases a3 : i = 24
    · rw [if_neg a7, if_neg a6, if_neg a5, if_neg a4, if_pos a3] at hi h4; exact key 3 (by omega) h4 hi
    by_cases a2 : i = 16
    · rw [if_neg a7, if_neg a6, if_neg a5, if_neg a4, if_neg a3, if_pos a2] at hi h4; exact key 2 (by omega) h4 hi
    by_cases a1 : i = 8
    · rw [if_neg a7, if_neg a6, if_neg a5, if_neg a4, if_neg a3, if_neg a2, if_pos a1] at hi h4; exact key 1 (by omega) h4 hi
    by_cases a0 : i = 0
    · rw [if_neg a7, if_neg a6, if_neg a5, if_neg a4, if_neg a3, if_neg a2, if_neg a1, if_pos a0] at hi h4; exact key 0 (by omega) h4 hi
    · rw [if_neg a7, if_neg a6, if_neg a5, if_neg a4, if_neg a3, if_neg a2, if_neg a1, if_neg a0] at hi h4
      exact h4 v hi

theorem stt_get (lg : Bool) (ws : List ME) (f : Nat → SV) (b : Nat) : (stt lg ws f).get b = if b = 9002 then some (.map ws ws.length) else if b = 9001 then some (.cells (rowF f) false) else if b = 204 then some (lgO lg 9002) else base.get b := by
  show (((base.put (some (lgO lg 9002)) 204).put (some (.cells (rowF f) false)) 9001).put (some (.map ws ws.length)) 9002).get b = _
  simp only [Tr.get_put]

/-- One state told in two ways. -/
theorem stt_view {ι : Io} {w : World} {lg : Bool} {ws ws' : List ME} {f f' : Nat → SV} (hr : ∀ j, j < 8 → ∀ V, VR ι (f j) V → VR ι (f' j) V) (hl : ws'.length = ws.length) (hm : ∀ cb N, OR ι (.map ws ws.length) cb N w → OR ι (.map ws' ws.length) cb N w) :
    ∀ b o', (stt lg ws' f').get b = some o' → ∃ o, (stt lg ws f).get b = some o ∧ ∀ cb N, OR ι o cb N w → OR ι o' cb N w := by
  intro b o' h
  rw [stt_get] at h
  simp only [stt_get]
  by_cases a2 : b = 9002
  · rw [if_pos a2] at h ⊢
    obtain rfl := Option.some.inj h
    rw [hl]
    exact ⟨_, rfl, hm⟩
  by_cases a1 : b = 9001
  · rw [if_neg a2, if_pos a1] at h ⊢
    obtain rfl := Option.some.inj h
    exact ⟨_, rfl, fun cb N h => row_or h hr⟩
  rw [if_neg a2, if_neg a1] at h ⊢
  exact ⟨o', h, fun _ _ h => h⟩

theorem Has.view {ι : Io} {A : Nat → Prop} {p : Pl} {g g' : Heap} {w : World} (h : Has ι A p g w) (hn : g'.next = g.next) (hv : ∀ b o', g'.get b = some o' → ∃ o, g.get b = some o ∧ ∀ cb N, OR ι o cb N w → OR ι o' cb N w) : Has ι A p g' w :=
  ⟨h.rep.view hn hv, h.c, h.t, h.pg, h.l, h.free, h.le, fun b o c N hb hι => by obtain ⟨o1, h1, _⟩ := hv b o hb; exact h.no b o1 c N h1 hι⟩

theorem view_at {ι : Io} {k : Nat} {b : Bool} (hk : k < 8) (h : AtK ι (10 + k) (bv b)) : ∀ j, j < 8 → ∀ V, VR ι (atB j) V → VR ι (viewB k b j) V := by
  intro j hj V hV
  unfold viewB
  cases hb : Nat.beq j k with
  | false => exact hV
  | true =>
    obtain rfl := Nat.eq_of_beq_eq_true hb
    obtain ⟨c, u, e1, rfl, _, _⟩ := hV
    obtain ⟨c', e2⟩ := h
    have e1 : ι (atomKey (10 + j)) = some (c, u) := e1
    rw [e2] at e1
    simp only [Option.some.injEq, Prod.mk.injEq] at e1
    rw [← e1.2]
    show Value.int .u8 _ = .int .u8 _
    cases b <;> rfl
theorem view_bw {ι : Io} {w : World} {k n : Nat} (h : AtK ι 0 n) (hn : n < 256) : ∀ cb N, OR ι (.map wA wA.length) cb N w → OR ι (.map (wd (.bw 0 k (n.testBit k) false)) wA.length) cb N w := by
  rintro cb N ⟨ces, h1, h2⟩
  refine ⟨ces, h1, ?_⟩
  match hl : ces.toList, h2 with
  | [x], ⟨⟨a1, a2, a3⟩, b⟩ =>
    refine ⟨⟨a1, ?_, a3⟩, b⟩
    obtain ⟨c, u, e1, e2, _, _⟩ := a2
    obtain ⟨c', e3⟩ := h
    rw [e3] at e1
    simp only [Option.some.injEq, Prod.mk.injEq] at e1
    obtain ⟨_, rfl⟩ := e1
    exact ⟨c', n, e3, by omega, rfl, e2⟩
theorem view_lit {ι : Io} {w : World} {n : Nat} (h : AtK ι 0 n) : ∀ cb N, OR ι (.map wA wA.length) cb N w → OR ι (.map (wd (.i .u64 (.ofNat n))) wA.length) cb N w := by
  rintro cb N ⟨ces, h1, h2⟩
  refine ⟨ces, h1, ?_⟩
  match hl : ces.toList, h2 with
  | [x], ⟨⟨a1, a2, a3⟩, b⟩ =>
    refine ⟨⟨a1, ?_, a3⟩, b⟩
    obtain ⟨c, u, e1, e2, _, _⟩ := a2
    obtain ⟨c', e3⟩ := h
    rw [e3] at e1
    simp only [Option.some.injEq, Prod.mk.injEq] at e1
    obtain ⟨_, rfl⟩ := e1
    exact e2

/-! ### names behind a call -/
noncomputable def updB (on : Nat → Bool) (k : Nat) (b : Bool) : Nat → Bool := fun j => if j = k then b else on j

theorem upN_keep {k : Nat} {wu bu : Up} {id : Nat} (h0 : id ≠ 0) (h1 : id ≠ 10 + k) : upN k wu bu id = .keep := by
  unfold upN
  have e : ∀ x y, x ≠ y → Nat.beq x y = false := fun x y h => by
    cases hb : Nat.beq x y with
    | false => rfl
    | true => exact absurd (Nat.eq_of_beq_eq_true hb) h
  rw [e _ _ h0, e id (Nat.add 10 k) h1]
  rfl
theorem upN_0 {k : Nat} {wu bu : Up} : upN k wu bu 0 = wu := rfl
theorem upN_k {k : Nat} {wu bu : Up} : upN k wu bu (10 + k) = bu := by
  unfold upN
  have e1 : Nat.beq (10 + k) 0 = false := by
    cases hb : Nat.beq (10 + k) 0 with
    | false => rfl
    | true => have := Nat.eq_of_beq_eq_true hb; omega
  have e2 : Nat.beq (10 + k) (Nat.add 10 k) = true := Nat.beq_refl _
  rw [e1, e2]; rfl

theorem names_up {ι ι2 : Io} {k cb : Nat} {wu : Up} {b : Bool} {tb : Nat → Bool} (hb : ∀ j, j < 8 → AtK ι (10 + j) (bv (tb j))) (h : ∀ id, ι2 (atomKey id) = match ι (atomKey id) with
      | some (c, v) => some (c, upV (upN k wu (.set (bv b)) id) v)
      | none => (match upN k wu (.set (bv b)) id with
        | .set n => some (cb, n)
        | _ => none)) : ∀ j, j < 8 → AtK ι2 (10 + j) (bv (updB tb k b j)) := by
  intro j hj
  obtain ⟨c, hc⟩ := hb j hj
  unfold AtK
  rw [h, hc]
  unfold updB
  by_cases hk : j = k
  · subst hk
    rw [upN_k, if_pos rfl]
    exact ⟨c, rfl⟩
  · rw [upN_keep (by omega) (by omega), if_neg hk]
    exact ⟨c, rfl⟩

theorem name_0 {ι ι2 : Io} {k cb n : Nat} {wu bu : Up} (hb : AtK ι 0 n) (h : ∀ id, ι2 (atomKey id) = match ι (atomKey id) with
      | some (c, v) => some (c, upV (upN k wu bu id) v)
      | none => (match upN k wu bu id with
        | .set n => some (cb, n)
        | _ => none)) : AtK ι2 0 (upV wu n) := by
  obtain ⟨c, hc⟩ := hb
  unfold AtK
  rw [h, hc]
  exact ⟨c, rfl⟩
theorem name_0set {ι ι2 : Io} {k cb n : Nat} {bu : Up} (h : ∀ id, ι2 (atomKey id) = match ι (atomKey id) with
      | some (c, v) => some (c, upV (upN k (.set n) bu id) v)
      | none => (match upN k (.set n) bu id with
        | .set n => some (cb, n)
        | _ => none)) : AtK ι2 0 n := by
  unfold AtK
  rw [h]
  cases ι (atomKey 0) with
  | none => exact ⟨_, rfl⟩
  | some x => exact ⟨x.1, rfl⟩

theorem allPg : ∀ k, k < 8 → chkPg k = true
  | 0, _ => cp0 | 1, _ => cp1 | 2, _ => cp2 | 3, _ => cp3 | 4, _ => cp4 | 5, _ => cp5 | 6, _ => cp6 | 7, _ => cp7
  | n + 8, h => absurd h (by omega)

theorem args2 {ι : Io} {A : Nat → Prop} {p : Pl} {g : Heap} {w : World} (h : Has ι A p g w) (k : Nat) : ARs ι [cN, nI 1, nU k] (#[.pointer (some ⟨p.cb, 0, none⟩), .int .i64 1, .int .u64 (k : Int)] : Array Value).toList := by
  obtain ⟨N, h1⟩ := h.c
  exact ⟨⟨p.cb, N, h1, rfl⟩, rfl, rfl, trivial⟩

theorem okN_v {n : Nat} {v : AV} {ι : Io} {V : Value} (h : okN n v = true) (hv : AVR ι v V) : V = .int .i64 (n : Int) := by
  unfold okN at h
  split at h
  · rename_i m
    obtain rfl := Nat.eq_of_beq_eq_true h
    exact hv
  · cases h
theorem bv_le (b : Bool) : bv b ≤ 255 := by cases b <;> decide

section
variable {A : Nat → Prop} {p : Pl} {w : World}

/-- The log and the table are of one mind. -/
def Wo (A : Nat → Prop) (p : Pl) (on : Nat → Bool) (w : World) : Prop := (Wl A p true none on w ∧ ∀ j, j < 8 → on j = false) ∨ Wl A p true (some on) on w


theorem upN_set {k u : Nat} {wu bu : Up} {id : Nat} (h1 : ∀ u, isSet wu u = true → u ≤ 255) (h2 : ∀ u, isSet bu u = true → u ≤ 255) (h : isSet (upN k wu bu id) u = true) : u ≤ 255 := by
  unfold upN at h
  cases hb : Nat.beq id 0 with
  | true => rw [hb] at h; exact h1 u h
  | false =>
    rw [hb] at h
    cases hc : Nat.beq id (Nat.add 10 k) with
    | true => rw [hc] at h; exact h2 u h
    | false => rw [hc] at h; cases h
theorem upN_or {k u : Nat} {wu bu : Up} {id : Nat} (h2 : ∀ u, isOr bu u = false) (h : isOr (upN k wu bu id) u = true) : id = 0 ∧ isOr wu u = true := by
  unfold upN at h
  cases hb : Nat.beq id 0 with
  | true => rw [hb] at h; exact ⟨Nat.eq_of_beq_eq_true hb, h⟩
  | false =>
    rw [hb] at h
    cases hc : Nat.beq id (Nat.add 10 k) with
    | true => rw [hc] at h; rw [show isOr (cnd false wu (cnd true bu Up.keep)) u = isOr bu u from rfl, h2] at h; cases h
    | false => rw [hc] at h; cases h
theorem set_le {n u : Nat} (hn : n ≤ 255) (h : isSet (.set n) u = true) : u ≤ 255 := by
  have := Nat.eq_of_beq_eq_true (show Nat.beq n u = true from h); omega

theorem pow_le {k : Nat} (hk : k < 8) : 2 ^ k ≤ 255 := by
  have := Nat.pow_lt_pow_right (a := 2) (by omega) hk
  omega

/-- A page is written. -/
theorem Written_W {k : Nat} (hk : k < 8) {on : Nat → Bool} (hA : ∀ c, A c → c < w.heap.size) (hw : Wo A p on w) :
    Calls Tryz.prog 53 #[.pointer (some ⟨p.cb, 0, none⟩), .int .i64 1, .int .u64 (k : Int)] w fun e w' => e = .returned (.int .i64 0) ∧ Wo A p (updB on k true) w' ∧ Kp A w w' := by
  have hck := allPg k hk
  unfold chkPg at hck
  simp only [Bool.and_eq_true] at hck
  have hck := hck.1
  unfold chkW at hck
  simp only [Bool.and_eq_true] at hck
  obtain ⟨c1, c2, c3⟩ := hck
  have pw := pow_le hk
  have tbk : ∀ j, (2 ^ k).testBit j = decide (k = j) := fun j => Nat.testBit_two_pow
  rcases hw with ⟨⟨ι, hH, hb, -⟩, hoff⟩ | ⟨ι, hH, hb, hn⟩
  · have hb0 : AtK ι (10 + k) (bv false) := by have := hb k hk; rw [hoff k hk] at this; exact this
    have hV := hH.view (g' := stt true w0 (viewB k false)) rfl (stt_view (view_at hk hb0) rfl (fun _ _ h => h))
    refine (chkU_step c1 rfl rfl pk1 hA hV (fun id u h => upN_set (fun u h => set_le pw h) (fun u h => set_le (by omega) h) h) (fun id u h => ?_) (args2 hV k)).mono ?_
    · have := (upN_or (fun _ => rfl) h).2; cases this
    · rintro e w' ⟨V, ι1, v, ι2, rfl, h1, h2, -, h4, h5, h6⟩
      rw [okN_v h1 h2]
      refine ⟨rfl, .inr ⟨ι2, h4, names_up (b := true) hb h5, fun f hf => ?_⟩, h6⟩
      obtain rfl := Option.some.inj hf
      refine ⟨2 ^ k, name_0set h5, by omega, fun j hj => ?_⟩
      rw [tbk]
      unfold updB
      by_cases hjk : j = k
      · subst hjk; simp
      · rw [if_neg hjk, hoff j hj]; simp; omega
  · obtain ⟨n, n1, n2, n3⟩ := hn on rfl
    cases hon : on k with
    | false =>
      have hb0 : AtK ι (10 + k) (bv false) := by have := hb k hk; rw [hon] at this; exact this
      have hV := hH.view (g' := stt true (wd (.bw 0 k false false)) (viewB k false)) rfl (stt_view (view_at hk hb0) rfl (by have := view_bw (w := w) (k := k) n1 n2; rw [n3 k hk, hon] at this; exact this))
      have hor : n ||| 2 ^ k < 256 := Nat.or_lt_two_pow (n := 8) n2 (by omega)
      refine (chkU_step c2 rfl rfl pk1 hA hV (fun id u h => upN_set (fun u h => by cases h) (fun u h => set_le (by omega) h) h) (fun id u h m hm => ?_) (args2 hV k)).mono ?_
      · obtain ⟨rfl, h7⟩ := upN_or (fun _ => rfl) h
        obtain rfl := Nat.eq_of_beq_eq_true (show Nat.beq k u = true from h7)
        obtain ⟨c, hm⟩ := hm
        obtain ⟨c', n1⟩ := n1
        rw [n1] at hm
        simp only [Option.some.injEq, Prod.mk.injEq] at hm
        rw [← hm.2]; omega
      · rintro e w' ⟨V, ι1, v, ι2, rfl, h1, h2, -, h4, h5, h6⟩
        rw [okN_v h1 h2]
        refine ⟨rfl, .inr ⟨ι2, h4, names_up (b := true) hb h5, fun f hf => ?_⟩, h6⟩
        obtain rfl := Option.some.inj hf
        refine ⟨n ||| 2 ^ k, name_0 n1 h5, hor, fun j hj => ?_⟩
        rw [Nat.testBit_or, tbk, n3 j hj]
        unfold updB
        by_cases hjk : j = k
        · subst hjk; simp
        · rw [if_neg hjk]
          have : decide (k = j) = false := by simpa using fun h => hjk h.symm
          rw [this]; simp
    | true =>
      have hb0 : AtK ι (10 + k) (bv true) := by have := hb k hk; rw [hon] at this; exact this
      have hV := hH.view (g' := stt true (wd (.bw 0 k true false)) (viewB k true)) rfl (stt_view (view_at hk hb0) rfl (by have := view_bw (w := w) (k := k) n1 n2; rw [n3 k hk, hon] at this; exact this))
      refine (chkU_step c3 rfl rfl pk1 hA hV (fun id u h => upN_set (fun u h => by cases h) (fun u h => set_le (by omega) h) h) (fun id u h => ?_) (args2 hV k)).mono ?_
      · have := (upN_or (fun _ => rfl) h).2; cases this
      · rintro e w' ⟨V, ι1, v, ι2, rfl, h1, h2, -, h4, h5, h6⟩
        rw [okN_v h1 h2]
        refine ⟨rfl, .inr ⟨ι2, h4, names_up (b := true) hb h5, fun f hf => ?_⟩, h6⟩
        obtain rfl := Option.some.inj hf
        refine ⟨n, name_0 n1 h5, n2, fun j hj => ?_⟩
        rw [n3 j hj]
        unfold updB
        by_cases hjk : j = k
        · subst hjk; simp [hon]
        · rw [if_neg hjk]

/-- 'Refresh' of a page, where no page is in the log. -/
theorem Refresh_W {k : Nat} (hk : k < 8) {lg : Bool} {tb : Nat → Bool} (hA : ∀ c, A c → c < w.heap.size) (hw : Wl A p lg none tb w) :
    Calls Tryz.prog 118 #[.pointer (some ⟨p.cb, 0, none⟩), .int .i64 1, .int .u64 (k : Int)] w fun e w' => e = .returned (.int .i64 0) ∧ Wl A p lg none (updB tb k (!lg)) w' ∧ Kp A w w' := by
  have hck := allPg k hk
  unfold chkPg at hck
  simp only [Bool.and_eq_true] at hck
  obtain ⟨-, -, -, -, -, d1, d2, d3, d4⟩ := hck
  have hc : chkR k lg (tb k) = true := by cases lg <;> cases tb k <;> assumption
  unfold chkR at hc
  obtain ⟨ι, hH, hb, -⟩ := hw
  have hV := hH.view (g' := stt lg w0 (viewB k (tb k))) rfl (stt_view (view_at hk (hb k hk)) rfl (fun _ _ h => h))
  have e : (cnd lg 67 195) = bv (!lg) := by cases lg <;> rfl
  rw [e] at hc
  refine (chkU_step hc rfl rfl (by cases lg; exact pk2; exact pk0) hA hV (fun id u h => upN_set (fun u h => by cases h) (fun u h => set_le (bv_le _) h) h) (fun id u h => ?_) (args2 hV k)).mono ?_
  · have := (upN_or (fun _ => rfl) h).2; cases this
  · rintro e w' ⟨V, ι1, v, ι2, rfl, h1, h2, -, h4, h5, h6⟩
    rw [okN_v h1 h2]
    exact ⟨rfl, ⟨ι2, h4, names_up hb h5, fun f hf => by cases hf⟩, h6⟩
end
end Go.Proofs.YtcdjgnpjapgoaaaGreat

set_option maxRecDepth 20000
namespace Go.Proofs.YtcdjgnpjapgoaaaGreat
open Go Go.RowKit Go.Lib Go.Proofs.YtcdjgnpjapgoaaaGreat.Dm

section
variable {A : Nat → Prop} {p : Pl} {w : World}

theorem keep_set {id u : Nat} (h : isSet ((fun _ : Nat => Up.keep) id) u = true) : u ≤ 255 := by cases h
theorem keep_or {id u n : Nat} (h : isOr ((fun _ : Nat => Up.keep) id) u = true) : n ||| 2 ^ u ≤ 255 := by cases h

theorem keep_at {ι ι2 : Io} {cb id n : Nat} (h : ∀ id, ι2 (atomKey id) = match ι (atomKey id) with
      | some (c, v) => some (c, upV ((fun _ : Nat => Up.keep) id) v)
      | none => (match (fun _ : Nat => Up.keep) id with
        | .set n => some (cb, n)
        | _ => none)) (ha : AtK ι id n) : AtK ι2 id n := by
  obtain ⟨c, hc⟩ := ha
  exact ⟨c, by rw [h, hc]; rfl⟩

/-- A call that leaves the state as it is. -/
theorem chk0_W {f : FuncId} {args : List AV} {ok : AV → Bool} {lg : Bool} {ws : Option (Nat → Bool)} {tb : Nat → Bool} (hck : chk0 f args ok lg (wsL ws) = true) (hp : pick (stt lg (wsL ws) atB).t baseL = (stt lg (wsL ws) atB).t) (hA : ∀ c, A c → c < w.heap.size) (hw : Wl A p lg ws tb w) {vs : Array Value}
    (has : ∀ ι, Has ι A p (stt lg (wsL ws) atB) w → ARs ι args vs.toList) :
    Calls Tryz.prog f vs w fun e w' => ∃ V ι1 v, e = .returned V ∧ ok v = true ∧ AVR ι1 v V ∧ (∃ N, ι1 11 = some (p.cb, N)) ∧ (∃ N, ι1 200 = some (p.tb, N)) ∧ (∃ N, ι1 202 = some (p.pg, N)) ∧ (∃ N, ι1 204 = some (p.lg, N)) ∧ Wl A p lg ws tb w' ∧ Kp A w w' := by
  obtain ⟨ι, hH, hb, hn⟩ := hw
  refine (chkU_step hck rfl rfl hp hA hH (fun id u h => keep_set (id := id) h) (fun id u h n _ => keep_or (id := id) h) (has ι hH)).mono ?_
  rintro e w' ⟨V, ι1, v, ι2, rfl, h1, h2, lo, h4, h5, h6⟩
  obtain ⟨N1, i1⟩ := hH.c
  obtain ⟨N2, i2⟩ := hH.t
  obtain ⟨N3, i3⟩ := hH.pg
  obtain ⟨N4, i4⟩ := hH.l
  refine ⟨V, ι1, v, rfl, h1, h2, ⟨N1, by rw [lo _ (by omega)]; exact i1⟩, ⟨N2, by rw [lo _ (by omega)]; exact i2⟩, ⟨N3, by rw [lo _ (by omega)]; exact i3⟩, ⟨N4, by rw [lo _ (by omega)]; exact i4⟩, ⟨ι2, h4, fun j hj => keep_at (cb := p.cb) h5 (hb j hj), fun f hf => ?_⟩, h6⟩
  obtain ⟨n, n1, n2⟩ := hn f hf
  exact ⟨n, keep_at (cb := p.cb) h5 n1, n2⟩

theorem args1 {ι : Io} {g : Heap} (h : Has ι A p g w) : ARs ι [cN, nI 1] (#[.pointer (some ⟨p.cb, 0, none⟩), .int .i64 1] : Array Value).toList := by
  obtain ⟨N, h1⟩ := h.c
  exact ⟨⟨p.cb, N, h1, rfl⟩, rfl, trivial⟩

theorem okP_v {b c : Nat} {v : AV} {ι : Io} {V : Value} (h : okP b v = true) (hv : AVR ι v V) (hb : ∃ N, ι b = some (c, N)) : V = .pointer (some ⟨c, 0, none⟩) := by
  unfold okP at h
  split at h
  · rename_i b'
    obtain rfl := Nat.eq_of_beq_eq_true h
    obtain ⟨N, hb⟩ := hb
    obtain ⟨cb, N', e, rfl⟩ := (show VR ι (.p b' 0) V from hv)
    rw [hb] at e
    simp only [Option.some.injEq, Prod.mk.injEq] at e
    rw [e.1]
  · cases h

/-- The shapes that are met. -/
inductive Shp : Bool → Option (Nat → Bool) → Prop
  | on0 : Shp true none
  | on1 (f : Nat → Bool) : Shp true (some f)
  | off : Shp false none

theorem chkO_all {lg : Bool} {ws : Option (Nat → Bool)} (s : Shp lg ws) : chkO lg (wsL ws) = true ∧ pick (stt lg (wsL ws) atB).t baseL = (stt lg (wsL ws) atB).t := by
  have h := cE
  unfold chkE at h
  simp only [Bool.and_eq_true] at h
  cases s with
  | on0 => exact ⟨h.2.2.2.2.2.1, pk0⟩
  | on1 f => exact ⟨h.2.2.2.2.2.2.1, pk1⟩
  | off => exact ⟨h.2.2.2.2.2.2.2, pk2⟩

variable {lg : Bool} {ws : Option (Nat → Bool)} {tb : Nat → Bool}

theorem Table_W (s : Shp lg ws) (hA : ∀ c, A c → c < w.heap.size) (hw : Wl A p lg ws tb w) :
    Calls Tryz.prog 26 #[.pointer (some ⟨p.cb, 0, none⟩), .int .i64 1] w fun e w' => e = .returned (.pointer (some ⟨p.tb, 0, none⟩)) ∧ Wl A p lg ws tb w' ∧ Kp A w w' := by
  obtain ⟨h, hp⟩ := chkO_all s
  unfold chkO at h
  simp only [Bool.and_eq_true] at h
  refine (chk0_W h.1 hp hA hw (fun ι hH => args1 hH)).mono ?_
  rintro e w' ⟨V, ι1, v, rfl, h1, h2, i1, i2, i3, i4, h5, h6⟩
  exact ⟨by rw [okP_v h1 h2 i2], h5, h6⟩
theorem guest_W (s : Shp lg ws) (hA : ∀ c, A c → c < w.heap.size) (hw : Wl A p lg ws tb w) :
    Calls Tryz.prog 108 #[.pointer (some ⟨p.cb, 0, none⟩), .int .i64 1] w fun e w' => e = .returned (.int .i64 0) ∧ Wl A p lg ws tb w' ∧ Kp A w w' := by
  obtain ⟨h, hp⟩ := chkO_all s
  unfold chkO at h
  simp only [Bool.and_eq_true] at h
  refine (chk0_W h.2.1 hp hA hw (fun ι hH => args1 hH)).mono ?_
  rintro e w' ⟨V, ι1, v, rfl, h1, h2, i1, i2, i3, i4, h5, h6⟩
  exact ⟨by rw [okN_v h1 h2]; rfl, h5, h6⟩
theorem Log_W (s : Shp lg ws) (hA : ∀ c, A c → c < w.heap.size) (hw : Wl A p lg ws tb w) :
    Calls Tryz.prog 109 #[.pointer (some ⟨p.cb, 0, none⟩), .int .i64 1] w fun e w' => e = .returned (.pointer (some ⟨p.lg, 0, none⟩)) ∧ Wl A p lg ws tb w' ∧ Kp A w w' := by
  obtain ⟨h, hp⟩ := chkO_all s
  unfold chkO at h
  simp only [Bool.and_eq_true] at h
  refine (chk0_W h.2.2.1 hp hA hw (fun ι hH => args1 hH)).mono ?_
  rintro e w' ⟨V, ι1, v, rfl, h1, h2, i1, i2, i3, i4, h5, h6⟩
  exact ⟨by rw [okP_v h1 h2 i4], h5, h6⟩
theorem Pages_W (s : Shp lg ws) (hA : ∀ c, A c → c < w.heap.size) (hw : Wl A p lg ws tb w) :
    Calls Tryz.prog 16 #[.pointer (some ⟨p.cb, 0, none⟩), .int .i64 1] w fun e w' => e = .returned (.pointer (some ⟨p.pg, 0, none⟩)) ∧ Wl A p lg ws tb w' ∧ Kp A w w' := by
  obtain ⟨h, hp⟩ := chkO_all s
  unfold chkO at h
  simp only [Bool.and_eq_true] at h
  refine (chk0_W h.2.2.2 hp hA hw (fun ι hH => args1 hH)).mono ?_
  rintro e w' ⟨V, ι1, v, rfl, h1, h2, i1, i2, i3, i4, h5, h6⟩
  exact ⟨by rw [okP_v h1 h2 i3], h5, h6⟩

/-- A log that is on is not begun; one that is off is not ended, and tells nothing. -/
theorem LogAgain_W (hA : ∀ c, A c → c < w.heap.size) (hw : Wl A p true none tb w) :
    Calls Tryz.prog 52 #[.pointer (some ⟨p.cb, 0, none⟩), .int .i64 1] w fun e w' => e = .returned (.int .i64 20) ∧ Wl A p true none tb w' ∧ Kp A w w' := by
  have h := cE
  unfold chkE at h
  simp only [Bool.and_eq_true] at h
  refine (chk0_W (ws := none) h.1 pk0 hA hw (fun ι hH => args1 hH)).mono ?_
  rintro e w' ⟨V, ι1, v, rfl, h1, h2, i1, i2, i3, i4, h5, h6⟩
  exact ⟨by rw [okN_v h1 h2]; rfl, h5, h6⟩
theorem UnlogAgain_W (hA : ∀ c, A c → c < w.heap.size) (hw : Wl A p false none tb w) :
    Calls Tryz.prog 56 #[.pointer (some ⟨p.cb, 0, none⟩), .int .i64 1] w fun e w' => e = .returned (.int .i64 20) ∧ Wl A p false none tb w' ∧ Kp A w w' := by
  have h := cE
  unfold chkE at h
  simp only [Bool.and_eq_true] at h
  refine (chk0_W (ws := none) h.2.2.1 pk2 hA hw (fun ι hH => args1 hH)).mono ?_
  rintro e w' ⟨V, ι1, v, rfl, h1, h2, i1, i2, i3, i4, h5, h6⟩
  exact ⟨by rw [okN_v h1 h2]; rfl, h5, h6⟩
theorem CollectOff_W (hA : ∀ c, A c → c < w.heap.size) (hw : Wl A p false none tb w) :
    Calls Tryz.prog 54 #[.pointer (some ⟨p.cb, 0, none⟩), .int .i64 1] w fun e w' => e = .returned (.tuple #[.slice none 0 0, .int .i64 20]) ∧ Wl A p false none tb w' ∧ Kp A w w' := by
  have h := cE
  unfold chkE at h
  simp only [Bool.and_eq_true] at h
  refine (chk0_W (ws := none) h.2.1 pk2 hA hw (fun ι hH => args1 hH)).mono ?_
  rintro e w' ⟨V, ι1, v, rfl, h1, h2, i1, i2, i3, i4, h5, h6⟩
  refine ⟨?_, h5, h6⟩
  unfold okC at h1
  split at h1
  · obtain ⟨a, rfl, hv⟩ := h2
    obtain ⟨a⟩ := a
    match a, hv with
    | [x, y], ⟨k1, k2, _⟩ =>
      obtain rfl : x = .slice none 0 0 := k1
      obtain rfl : y = .int .i64 20 := k2
      rfl
    | [], h => exact h.elim
    | [_], h => exact h.2.elim
    | _ :: _ :: _ :: _, h => exact h.2.2.elim
  · cases h1

/-- What a page is mapped to. -/
theorem okG_v {b : Bool} {v : AV} {ι : Io} {V : Value} (h : okG b v = true) (hv : AVR ι v V) : ∃ x y z u : Int, V = .tuple #[.agg #[.int .u64 x, .int .i64 y, .bool true, .bool b, .bool true, .int .i64 z, .int .i64 u], .bool true] := by
  unfold okG at h
  split at h
  · rename_i n1 n2 r b' x n3 n4 t
    simp only [Bool.and_eq_true] at h
    obtain ⟨rfl, rfl, rfl, h4⟩ := h
    obtain rfl := beqB_true h4
    obtain ⟨a, rfl, hv⟩ := hv
    obtain ⟨a⟩ := a
    match a, hv with
    | [x, y], ⟨k1, k2, _⟩ =>
      obtain ⟨a2, rfl, q⟩ := k1
      obtain rfl : y = .bool true := k2
      obtain ⟨a2⟩ := a2
      match a2, q with
      | [x1, x2, x3, x4, x5, x6, x7], ⟨q1, q2, q3, q4, q5, q6, q7, _⟩ =>
        obtain rfl : x3 = .bool true := q3
        obtain rfl : x4 = .bool b' := q4
        obtain rfl : x5 = .bool true := q5
        obtain rfl : x1 = .int .u64 n1 := q1
        obtain rfl : x2 = .int .i64 n2 := q2
        obtain rfl : x6 = .int .i64 n3 := q6
        obtain rfl : x7 = .int .i64 n4 := q7
        exact ⟨n1, n2, n3, n4, rfl⟩
    | [], h => exact h.elim
    | [_], h => exact h.2.elim
    | _ :: _ :: _ :: _, h => exact h.2.2.elim
  · cases h

theorem args3 {ι : Io} {g : Heap} (h : Has ι A p g w) (k : Nat) : ARs ι [.cv (.sc (.p 200 0)), nU k] (#[.pointer (some ⟨p.tb, 0, none⟩), .int .u64 (k : Int)] : Array Value).toList := by
  obtain ⟨N, h1⟩ := h.t
  exact ⟨⟨p.tb, N, h1, rfl⟩, rfl, trivial⟩

theorem names_same {tb : Nat → Bool} {k : Nat} {ι : Io} (h : ∀ j, j < 8 → AtK ι (10 + j) (bv (updB tb k (tb k) j))) : ∀ j, j < 8 → AtK ι (10 + j) (bv (tb j)) := by
  intro j hj
  have := h j hj
  unfold updB at this
  by_cases e : j = k
  · subst e; rw [if_pos rfl] at this; exact this
  · rw [if_neg e] at this; exact this

theorem Get_W {k : Nat} (hk : k < 8) (hs : (lg = true ∧ ws = none ∧ tb k = false) ∨ (lg = true ∧ ∃ f, ws = some f) ∨ (lg = false ∧ ws = none ∧ tb k = true)) (hA : ∀ c, A c → c < w.heap.size) (hw : Wl A p lg ws tb w) :
    Calls Tryz.prog 55 #[.pointer (some ⟨p.tb, 0, none⟩), .int .u64 (k : Int)] w fun e w' => (∃ x y z u : Int, e = .returned (.tuple #[.agg #[.int .u64 x, .int .i64 y, .bool true, .bool (tb k), .bool true, .int .i64 z, .int .i64 u], .bool true])) ∧ Wl A p lg ws tb w' ∧ Kp A w w' := by
  have hck := allPg k hk
  unfold chkPg at hck
  simp only [Bool.and_eq_true] at hck
  obtain ⟨-, d1, d2, d3, d4, -⟩ := hck
  obtain ⟨ι, hH, hb, hn⟩ := hw
  have hc : chkU evN 55 [.cv (.sc (.p 200 0)), nU k] (stt lg (wsL ws) (viewB k (tb k))) (okG (tb k)) (stt lg (wsL ws) atB) (upN k .keep (.set (bv (tb k)))) = true := by
    rcases hs with ⟨rfl, rfl, h⟩ | ⟨rfl, f, rfl⟩ | ⟨rfl, rfl, h⟩
    · rw [h]; exact d1
    · cases tb k
      · exact d4
      · exact d3
    · rw [h]; exact d2
  have hp : pick (stt lg (wsL ws) atB).t baseL = (stt lg (wsL ws) atB).t := by
    rcases hs with ⟨rfl, rfl, h⟩ | ⟨rfl, f, rfl⟩ | ⟨rfl, rfl, h⟩
    · exact pk0
    · exact pk1
    · exact pk2
  have hV := hH.view (g' := stt lg (wsL ws) (viewB k (tb k))) rfl (stt_view (view_at hk (hb k hk)) rfl (fun _ _ h => h))
  refine (chkU_step hc rfl rfl hp hA hV (fun id u h => upN_set (fun u h => by cases h) (fun u h => set_le (bv_le _) h) h) (fun id u h => ?_) (args3 hV k)).mono ?_
  · have := (upN_or (fun _ => rfl) h).2; cases this
  · rintro e w' ⟨V, ι1, v, ι2, rfl, h1, h2, -, h4, h5, h6⟩
    obtain ⟨x, y, z, u, rfl⟩ := okG_v h1 h2
    refine ⟨⟨x, y, z, u, rfl⟩, ⟨ι2, h4, names_same (names_up hb h5), fun f hf => ?_⟩, h6⟩
    obtain ⟨n, n1, n2⟩ := hn f hf
    exact ⟨n, name_0 n1 h5, n2⟩

/-- The log is stopped. -/
theorem Stop_W (s : Shp true ws) (hA : ∀ c, A c → c < w.heap.size) (hw : Wl A p true ws tb w) :
    Calls Tryz.prog 121 #[.pointer (some ⟨p.lg, 0, none⟩)] w fun e w' => e = .returned (.int .i64 0) ∧ Wl A p false none tb w' ∧ Kp A w w' := by
  have h := cE
  unfold chkE at h
  simp only [Bool.and_eq_true] at h
  have hc : chkS (wsL ws) = true := by
    cases ws with
    | none => exact h.2.2.2.1
    | some f => exact h.2.2.2.2.1
  unfold chkS at hc
  obtain ⟨ι, hH, hb, hn⟩ := hw
  refine (chkU_step hc rfl rfl pk2 hA hH (fun id u h => keep_set (id := id) h) (fun id u h n _ => keep_or (id := id) h) ?_).mono ?_
  · obtain ⟨N, h1⟩ := hH.l
    exact ⟨⟨p.lg, N, h1, rfl⟩, trivial⟩
  rintro e w' ⟨V, ι1, v, ι2, rfl, h1, h2, lo, h4, h5, h6⟩
  exact ⟨by rw [okN_v h1 h2]; rfl, ⟨ι2, h4, fun j hj => keep_at (cb := p.cb) h5 (hb j hj), fun f hf => by cases hf⟩, h6⟩
end
end Go.Proofs.YtcdjgnpjapgoaaaGreat

set_option maxRecDepth 20000
namespace Go.Proofs.YtcdjgnpjapgoaaaGreat
open Go Go.RowKit Go.Lib Go.Proofs.YtcdjgnpjapgoaaaGreat.Dm

/-- These numbers stand in this block. -/
def LsAt (w : World) (gb : Nat) (L : List Nat) : Prop := ∃ cs el fr, w.heap[gb]? = some (.cells cs el fr) ∧ fr.1 = fr.2 ∧ ∀ (j n : Nat), L[j]? = some n → cs[j]? = some (Value.int .u64 (n : Int))

theorem LsAt.cell {w : World} {gb : Nat} {L : List Nat} (h : LsAt w gb L) {j n : Nat} (hj : L[j]? = some n) : w.cell? ⟨gb, j, none⟩ = some (.int .u64 (n : Int)) := by
  obtain ⟨cs, el, fr, h1, h2, h3⟩ := h
  simp only [World.cell?, h1]
  simpa using h3 j n hj
theorem LsAt.kept {w w' : World} {gb : Nat} {L : List Nat} (h : LsAt w gb L) (hk : w'.heap[gb]? = w.heap[gb]?) : LsAt w' gb L := by
  obtain ⟨cs, el, fr, h1, h2, h3⟩ := h
  exact ⟨cs, el, fr, hk.trans h1, h2, h3⟩

theorem rowEq_get {r : Row} : ∀ {l : List Nat} {i : Nat}, rowEq r l i = true → ∀ j n, l[j]? = some n → r.get (i + j) = some (.i .u64 (.ofNat n))
  | [], i, _, j, n, h => by simp at h
  | a :: l, i, h, j, n, hj => by
    simp only [rowEq, Bool.and_eq_true] at h
    obtain ⟨h1, h2⟩ := h
    cases j with
    | zero =>
      simp only [List.getElem?_cons_zero, Option.some.injEq] at hj
      subst hj
      split at h1
      · rename_i b hb
        obtain rfl := Nat.eq_of_beq_eq_true h1
        exact hb
      · cases h1
    | succ j =>
      have := rowEq_get h2 j n (by simpa using hj)
      rw [show Nat.succ i + j = i + (j + 1) by omega] at this
      exact this

/-- The pages of a word. -/
noncomputable def bitsF (f : Nat → Bool) : Nat → List Nat
  | 0 => []
  | j + 1 => bitsF f j ++ cnd (f j) [j] []
theorem tB_eq (n j : Nat) : tB n j = n.testBit j := by
  unfold tB
  rw [Nat.testBit_eq_decide_div_mod_eq]
  have : Nat.land (Nat.div n (2 ^ j)) 1 = n / 2 ^ j % 2 := by
    show (n / 2 ^ j) &&& 1 = _
    exact Nat.and_one_is_mod _
  rw [this]
  cases hb : Nat.beq (n / 2 ^ j % 2) 1 with
  | true => have := Nat.eq_of_beq_eq_true hb; simp [this]
  | false => have := Nat.ne_of_beq_eq_false hb; simp [this]
theorem bitsL_eq {n : Nat} {f : Nat → Bool} : ∀ {m : Nat}, (∀ j, j < m → n.testBit j = f j) → bitsL n m = bitsF f m
  | 0, _ => rfl
  | m + 1, h => by
    unfold bitsL bitsF
    rw [bitsL_eq fun j hj => h j (by omega), tB_eq, h m (by omega)]
theorem mem_bitsF {f : Nat → Bool} : ∀ {m j : Nat}, j ∈ bitsF f m ↔ j < m ∧ f j = true
  | 0, j => by simp [bitsF]
  | m + 1, j => by
    unfold bitsF
    rw [List.mem_append, mem_bitsF]
    cases hf : f m with
    | true =>
      simp only [cnd_true, List.mem_singleton]
      constructor
      · rintro (⟨h1, h2⟩ | rfl)
        · exact ⟨by omega, h2⟩
        · exact ⟨by omega, hf⟩
      · rintro ⟨h1, h2⟩
        by_cases e : j = m
        · exact .inr e
        · exact .inl ⟨by omega, h2⟩
    | false =>
      simp only [cnd_false, List.not_mem_nil, or_false]
      constructor
      · rintro ⟨h1, h2⟩; exact ⟨by omega, h2⟩
      · rintro ⟨h1, h2⟩
        by_cases e : j = m
        · subst e; rw [hf] at h2; cases h2
        · exact ⟨by omega, h2⟩

section
variable {A : Nat → Prop} {p : Pl} {w : World}

/-- The blocks of the machine, and one more that is not. -/
def Ad (A : Nat → Prop) (gb : Nat) (c : Nat) : Prop := A c ∨ c = gb

theorem not_mapN {σ : Nat → Nat} {L : List Nat} {b : Nat} (h : ((mapN σ L).any fun x => Nat.beq b x) = false) : ∀ x ∈ L, σ x ≠ b := by
  intro x hx e
  have mem : ∀ {l : List Nat} {a : Nat}, a ∈ l → σ a ∈ mapN σ l := by
    intro l
    induction l with
    | nil => intro a h; cases h
    | cons c r ih =>
      intro a h
      rcases List.mem_cons.1 h with rfl | h
      · exact List.mem_cons_self
      · exact List.mem_cons_of_mem _ (ih h)
  have : ((mapN σ L).any fun x => Nat.beq b x) = true := List.any_eq_true.2 ⟨_, mem hx, by rw [e]; exact Nat.beq_refl _⟩
  rw [this] at h; cases h

/-- The slice that a call tells, as it stands in the world. -/
theorem slice_out {h : Heap} {ι1 ι2 : Io} {σ : Nat → Nat} {g' : Heap} {w' : World} {b len cap : Nat} {ex : Bool} {V : Value} {r : Row} {L : List Nat} (hv : VR ι1 (.sl b 0 len cap 1 ex) V) (hr : Rep ι1 w' h) (hb : h.t.get b = some (.cells r false)) (hpos : 0 < len)
    (hL : rowEq r L 0 = true) (hlen : len = L.length) (hnm : ((mapN σ baseL).any fun x => Nat.beq b x) = false) (hH : Has ι2 A p g' w') (hio : ∀ b, b < 10000 → ι2 b = ι1 (σ b)) (hg : g'.next = 10000) (hp : pick g'.t baseL = g'.t)
    (halive : ∀ b ∈ baseL, ∃ o, h.get (σ b) = some o) :
    ∃ gb cp, V = .slice (some ⟨gb, 0, none⟩) len cp ∧ len ≤ cp ∧ LsAt w' gb L ∧ gb < w'.heap.size ∧ Has ι2 (Ad A gb) p g' w' := by
  obtain ⟨gb, N, o', cp, i1, rfl, s1, s2, s3⟩ := hv
  have ho : o' = 0 := by
    cases ex with
    | true => exact (s2 rfl).1
    | false => rcases (s3 rfl).2.1 with h | h <;> omega
  subst ho
  have hcp : len ≤ cp := by
    cases ex with
    | true => rw [(s2 rfl).2]; exact s1
    | false => exact Nat.le_trans s1 (s3 rfl).1
  obtain ⟨cb', N', j1, cs, el, fr, g2, g3, g4, g5, g6⟩ := hr.obj b _ hb
  rw [i1] at j1
  simp only [Option.some.injEq, Prod.mk.injEq] at j1
  obtain ⟨rfl, rfl⟩ := j1
  refine ⟨gb, cp, rfl, hcp, ⟨cs, el, fr, g2, g6 rfl, fun j n hj => ?_⟩, hr.dom _ _ _ i1, ⟨hH.rep, hH.c, hH.t, hH.pg, hH.l, hH.free, hH.le, fun c o c' N hc hι hA => ?_⟩⟩
  · have := rowEq_get hL j n hj
    rw [Nat.zero_add] at this
    obtain ⟨V, e1, e2⟩ := g5 _ _ this
    obtain rfl : V = .int .u64 (n : Int) := e2
    exact e1
  · rcases hA with hA | rfl
    · exact hH.no c o c' N hc hι hA
    · have hlt := hH.rep.lt c o hc
      rw [hg] at hlt
      rw [hio c hlt] at hι
      have hcL := l_of hp hc
      obtain ⟨o2, ho2⟩ := halive c hcL
      exact not_mapN hnm c hcL (hr.inj (σ c) b o2 _ _ _ _ ho2 hb hι i1)

theorem alive_of {f : SV → SV → Bool} {σ : Nat → Nat} {n : Nat} {t t' : Tr AO} {nx : Nat} (hc : mtF f σ n t t' baseL = true) : ∀ b ∈ baseL, ∃ o, (Heap.mk nx t).get (σ b) = some o := by
  intro b hb
  obtain ⟨_, x, _, h, _⟩ := mtF_get hc b hb
  exact ⟨x, h⟩

theorem allCol : ∀ n, n < 256 → chkCol n = true := by
  intro n hn
  have key : ∀ j, j < 8 → chkCols j = true := fun j hj => by
    match j, hj with
    | 0, _ => exact cc0 | 1, _ => exact cc1 | 2, _ => exact cc2 | 3, _ => exact cc3 | 4, _ => exact cc4 | 5, _ => exact cc5 | 6, _ => exact cc6 | 7, _ => exact cc7
    | n + 8, h => exact absurd h (by omega)
  have := allN_get (key (n / 32) (by omega)) (n % 32) (by omega)
  have e : Nat.add (Nat.mul 32 (n / 32)) (n % 32) = n := Nat.div_add_mod n 32
  rw [e] at this
  exact this

/-- The log's pages are taken out of it. -/
theorem Col_W {on : Nat → Bool} {tb : Nat → Bool} (hA : ∀ c, A c → c < w.heap.size) (hw : Wl A p true (some on) tb w) :
    Calls Tryz.prog 119 #[.pointer (some ⟨p.lg, 0, none⟩)] w fun e w' => ∃ V, e = .returned (.tuple #[V, .int .i64 0]) ∧ Kp A w w' ∧
      ((V = .slice none 0 0 ∧ bitsF on 8 = [] ∧ Wl A p true none tb w') ∨ ∃ gb cp, V = .slice (some ⟨gb, 0, none⟩) (bitsF on 8).length cp ∧ 0 < (bitsF on 8).length ∧ (bitsF on 8).length ≤ cp ∧ LsAt w' gb (bitsF on 8) ∧ gb < w'.heap.size ∧ Wl (Ad A gb) p true none tb w') := by
  obtain ⟨ι, hH, hb, hn⟩ := hw
  obtain ⟨n, n1, n2, n3⟩ := hn on rfl
  have hV := hH.view (g' := stt true (wd (.i .u64 (.ofNat n))) atB) rfl (stt_view (fun _ _ _ h => h) rfl (view_lit (w := w) n1))
  have hck := allCol n n2
  have hbl : bitsL n 8 = bitsF on 8 := bitsL_eq n3
  unfold chkCol at hck
  split at hck
  · rename_i v h hr
    simp only [Bool.and_eq_true] at hck
    obtain ⟨h1, h2, h3, h4⟩ := hck
    obtain ⟨s1, s2, s3, s4⟩ := sgs h.t
    refine (step_u (g' := stt true w0 atB) rfl rfl pk0 hr h2 h3 h4 s1 s2 s3 s4 hA hV (fun id u h => keep_set (id := id) h) (fun id u h n _ => keep_or (id := id) h) ?_).mono ?_
    · obtain ⟨N, h1⟩ := hH.l
      exact ⟨⟨p.lg, N, h1, rfl⟩, trivial⟩
    rintro e w' ⟨V, ι1, rfl, hv, lo, hr1, hH2, up, hkp, -⟩
    have hat : ∀ j, j < 8 → AtK (io3 (sgN (rowB h.t) (wmB h.t)) (fun _ => .keep) p.cb ι1) (10 + j) (bv (tb j)) := fun j hj => by
      obtain ⟨c, hc⟩ := hb j hj
      exact ⟨c, by rw [io3_at, up, hc]; rfl⟩
    unfold okCol at h1
    split at h1
    · obtain ⟨a, rfl, hv⟩ := hv
      obtain ⟨a⟩ := a
      match a, hv with
      | [x, y], ⟨k1, k2, _⟩ =>
        obtain rfl : x = .slice none 0 0 := k1
        obtain rfl : y = .int .i64 0 := k2
        have h0 := Nat.eq_of_beq_eq_true h1
        refine ⟨_, rfl, hkp, .inl ⟨rfl, ?_, ⟨_, hH2, hat, fun f hf => by cases hf⟩⟩⟩
        rw [← hbl, h0]; rfl
      | [], h => exact h.elim
      | [_], h => exact h.2.elim
      | _ :: _ :: _ :: _, h => exact h.2.2.elim
    · rename_i b len cap ex
      simp only [Bool.and_eq_true, Bool.not_eq_true'] at h1
      obtain ⟨q1, q2, q3, q4⟩ := h1
      have q1 := Nat.eq_of_beq_eq_true q1
      have q2 : 0 < len := Nat.le_of_ble_eq_true q2
      split at q4
      · rename_i r hbr
        obtain ⟨a, rfl, hv⟩ := hv
        obtain ⟨a⟩ := a
        match a, hv with
        | [x, y], ⟨k1, k2, _⟩ =>
          obtain rfl : y = .int .i64 0 := k2
          obtain ⟨gb, cp, rfl, e2, e3, e4, e5⟩ := slice_out (V := x) k1 hr1 hbr q2 q4 q1 q3 hH2 (fun b hb => io3_lt hb) rfl pk0 (alive_of h4)
          rw [hbl] at e3 q1
          rw [q1] at e2 q2
          refine ⟨_, rfl, hkp, .inr ⟨gb, cp, by rw [q1], q2, e2, e3, e4, ⟨_, e5, hat, fun f hf => by cases hf⟩⟩⟩
        | [], h => exact h.elim
        | [_], h => exact h.2.elim
        | _ :: _ :: _ :: _, h => exact h.2.2.elim
      · cases q4
    · cases h1
  · cases hck

/-- The list of all pages. -/
theorem List_W {tb : Nat → Bool} (hA : ∀ c, A c → c < w.heap.size) (hw : Wl A p false none tb w) :
    Calls Tryz.prog 64 #[.pointer (some ⟨p.pg, 0, none⟩)] w fun e w' => ∃ gb cp, e = .returned (.slice (some ⟨gb, 0, none⟩) 8 cp) ∧ Kp A w w' ∧ 8 ≤ cp ∧ LsAt w' gb [0, 1, 2, 3, 4, 5, 6, 7] ∧ gb < w'.heap.size ∧ Wl (Ad A gb) p false none tb w' := by
  obtain ⟨ι, hH, hb, -⟩ := hw
  have hck := cLs
  unfold chkLs at hck
  split at hck
  · rename_i v h hr
    simp only [Bool.and_eq_true] at hck
    obtain ⟨h1, h2, h3, h4⟩ := hck
    obtain ⟨s1, s2, s3, s4⟩ := sgs h.t
    refine (step_u (g' := stt false w0 atB) rfl rfl pk2 hr h2 h3 h4 s1 s2 s3 s4 hA hH (fun id u h => keep_set (id := id) h) (fun id u h n _ => keep_or (id := id) h) ?_).mono ?_
    · obtain ⟨N, h1⟩ := hH.pg
      exact ⟨⟨p.pg, N, h1, rfl⟩, trivial⟩
    rintro e w' ⟨V, ι1, rfl, hv, lo, hr1, hH2, up, hkp, -⟩
    have hat : ∀ j, j < 8 → AtK (io3 (sgN (rowB h.t) (wmB h.t)) (fun _ => .keep) p.cb ι1) (10 + j) (bv (tb j)) := fun j hj => by
      obtain ⟨c, hc⟩ := hb j hj
      exact ⟨c, by rw [io3_at, up, hc]; rfl⟩
    unfold okList at h1
    split at h1
    · rename_i b cap ex
      simp only [Bool.and_eq_true, Bool.not_eq_true'] at h1
      obtain ⟨q3, q4⟩ := h1
      split at q4
      · rename_i r hbr
        obtain ⟨gb, cp, rfl, e2, e3, e4, e5⟩ := slice_out (V := V) hv hr1 hbr (by decide) q4 rfl q3 hH2 (fun b hb => io3_lt hb) rfl pk2 (alive_of h4)
        exact ⟨gb, cp, rfl, hkp, e2, e3, e4, ⟨_, e5, hat, fun f hf => by cases hf⟩⟩
      · cases q4
    · cases h1
  · cases hck
end
end Go.Proofs.YtcdjgnpjapgoaaaGreat

set_option maxRecDepth 20000
namespace Go.Proofs.YtcdjgnpjapgoaaaGreat
open Go Go.RowKit Go.Lib Go.Proofs.YtcdjgnpjapgoaaaGreat.Dm

section
variable {A : Nat → Prop} {p : Pl} {w : World}

theorem Kp.refl (A : Nat → Prop) (w : World) : Kp A w w := ⟨rfl, rfl, rfl, Nat.le_refl _, fun _ _ => rfl⟩
theorem Kp.trans {w1 w2 w3 : World} (h : Kp A w1 w2) (k : Kp A w2 w3) : Kp A w1 w3 :=
  ⟨k.os.trans h.os, k.tape.trans h.tape, k.output.trans h.output, Nat.le_trans h.size k.size, fun c hc => (k.block c hc).trans (h.block c hc)⟩
theorem Kp.sub {A B : Nat → Prop} {w w' : World} (h : Kp A w w') (hs : ∀ c, B c → A c) : Kp B w w' := ⟨h.os, h.tape, h.output, h.size, fun c hc => h.block c (hs c hc)⟩
theorem Kp.in {w w' : World} (hA : ∀ c, A c → c < w.heap.size) (h : Kp A w w') : ∀ c, A c → c < w'.heap.size := fun c hc => Nat.lt_of_lt_of_le (hA c hc) h.size

/-- The pages of these numbers are mapped anew. -/
noncomputable def updL (tb : Nat → Bool) (lg : Bool) (L : List Nat) : Nat → Bool := fun j => if j ∈ L then !lg else tb j
theorem updL_nil (tb : Nat → Bool) (lg : Bool) : updL tb lg [] = tb := by funext j; simp [updL]
theorem updL_snoc (tb : Nat → Bool) (lg : Bool) (L : List Nat) (k : Nat) : updB (updL tb lg L) k (!lg) = updL tb lg (L ++ [k]) := by
  funext j
  unfold updB updL
  by_cases h : j = k
  · subst h; simp
  · rw [if_neg h]; simp [h]

set_option maxHeartbeats 1000000 in
theorem refresh_W {lg : Bool} {tb : Nat → Bool} {L : List Nat} {gb cp : Nat} (hL : ∀ x ∈ L, x < 8) (hlen : L.length ≤ 8) (hcp : L.length ≤ cp) (hA : ∀ c, A c → c < w.heap.size) (hgA : A gb) (hl : LsAt w gb L) (hw : Wl A p lg none tb w) :
    Calls Tryz.prog 115 #[.pointer (some ⟨p.cb, 0, none⟩), .int .i64 1, .slice (some ⟨gb, 0, none⟩) L.length cp] w fun e w' => e = .returned (.tuple #[]) ∧ Wl A p lg none (updL tb lg L) w' ∧ Kp A w w' := by
  have HA : Aside (∀ c, A c → c < w.heap.size) := hA
  have HL : Aside (∀ x ∈ L, x < 8) := hL
  have HG : Aside (A gb) := hgA
  have HLS : Aside (LsAt w gb L) := hl
  have HW : Aside (Wl A p lg none tb w) := hw
  have HN : Aside (L.length ≤ 8 ∧ L.length ≤ cp) := ⟨hlen, hcp⟩
  clear hA hL hgA hl hw hlen hcp
  go_enter Tryz.func115, Tryz.ntmps115
  go_wp2
  go_loopw [10] (fun vi wr => ∃ i : Nat, vi = .int .i64 i ∧ i ≤ L.length ∧ Wl A p lg none (updL tb lg (L.take i)) wr ∧ Kp A w wr) (fun vi _ => L.length - (intOf vi).toNat)
  case atStart => exact ⟨0, rfl, Nat.zero_le _, by rw [List.take_zero, updL_nil]; exact HW.out, Kp.refl A w⟩
  case round =>
    obtain ⟨i, rfl, hi, hwi, hki⟩ := hrel
    have HWI : Aside (Wl A p lg none (updL tb lg (L.take i)) wr) := hwi
    have HKI : Aside (Kp A w wr) := hki
    clear hwi hki
    by_cases hlt : i < L.length
    · obtain ⟨n, hn⟩ : ∃ n, L[i]? = some n := ⟨L[i], List.getElem?_eq_getElem hlt⟩
      have hn8 : n < 8 := HL.out n (List.mem_of_getElem? hn)
      have hc := (HLS.out.kept (HKI.out.block gb HG.out)).cell hn
      have HC := fun w (h : Wl A p lg none (updL tb lg (L.take i)) w) (hA : ∀ c, A c → c < w.heap.size) => Refresh_W (p := p) (A := A) hn8 (lg := lg) hA h
      have HNN : Aside (L[i]? = some n ∧ n < 8) := ⟨hn, hn8⟩
      have hlen9 : L.length < 9 := by have := HN.out.1; omega
      clear hn hn8
      go_wp2_with (go_at_call 118; refine (HC _ HWI.out (HKI.out.in HA.out)).mono ?_; rintro e w1 ⟨rfl, hw1, hk1⟩)
      go_roundw
      case rel =>
        refine ⟨i + 1, by congr 1, by omega, ?_, HKI.out.trans hk1⟩
        rw [updL_snoc] at hw1
        rw [show L.take (i + 1) = L.take i ++ [n] from by rw [List.take_add_one, HNN.out.1]; rfl]
        exact hw1
      case measure => simp [intOf]; omega
    · go_wp2
      go_end0
      have : L.take i = L := List.take_of_length_le (by omega)
      have h := HWI.out
      rw [this] at h
      exact ⟨rfl, h, HKI.out⟩

theorem refresh0_W (w : World) (cb : Nat) : Calls Tryz.prog 115 #[.pointer (some ⟨cb, 0, none⟩), .int .i64 1, .slice none 0 0] w fun e w' => e = .returned (.tuple #[]) ∧ w' = w := by
  go_enter Tryz.func115, Tryz.ntmps115
  go_wp2
  go_loopw [10] (fun vi wr => vi = .int .i64 0 ∧ wr = w) (fun _ _ => 0)
  case atStart => exact ⟨rfl, rfl⟩
  case round =>
    obtain ⟨rfl, rfl⟩ := hrel
    go_wp2
    go_end0
    exact ⟨rfl, rfl⟩

theorem bits_lt {f : Nat → Bool} {x : Nat} (h : x ∈ bitsF f 8) : x < 8 := (mem_bitsF.1 h).1
theorem bits_len (f : Nat → Bool) : ∀ m, (bitsF f m).length ≤ m
  | 0 => Nat.le_refl _
  | m + 1 => by
    unfold bitsF
    have := bits_len f m
    cases f m <;> simp <;> omega

theorem updL_all {on : Nat → Bool} : ∀ j, j < 8 → updL on true (bitsF on 8) j = false := by
  intro j hj
  unfold updL
  by_cases h : j ∈ bitsF on 8
  · rw [if_pos h]; rfl
  · rw [if_neg h]
    cases hj' : on j with
    | false => rfl
    | true => exact absurd (mem_bitsF.2 ⟨hj, hj'⟩) h

theorem Wl.mono {lg : Bool} {ws : Option (Nat → Bool)} {tb : Nat → Bool} {B : Nat → Prop} (h : Wl A p lg ws tb w) (hs : ∀ c, B c → A c) : Wl B p lg ws tb w := by
  obtain ⟨ι, hH, hb, hn⟩ := h
  exact ⟨ι, ⟨hH.rep, hH.c, hH.t, hH.pg, hH.l, hH.free, hH.le, fun b o c N hb hι hB => hH.no b o c N hb hι (hs c hB)⟩, hb, hn⟩
theorem Wl.off {tb tb' : Nat → Bool} {lg : Bool} {ws : Option (Nat → Bool)} (h : Wl A p lg ws tb w) (he : ∀ j, j < 8 → tb' j = tb j) : Wl A p lg ws tb' w := by
  obtain ⟨ι, hH, hb, hn⟩ := h
  exact ⟨ι, hH, fun j hj => by rw [he j hj]; exact hb j hj, hn⟩

/-- What a Collect tells: the pages that were written, rising; none is written any more. -/
def ColPost (A : Nat → Prop) (p : Pl) (on : Nat → Bool) (w : World) (e : Ending) (w' : World) : Prop :=
  ∃ V, e = .returned (.tuple #[V, .int .i64 0]) ∧ Kp A w w' ∧ ((V = .slice none 0 0 ∧ bitsF on 8 = [] ∧ Wl A p true none (fun _ => false) w') ∨
    ∃ gb cp, V = .slice (some ⟨gb, 0, none⟩) (bitsF on 8).length cp ∧ (bitsF on 8).length ≤ cp ∧ LsAt w' gb (bitsF on 8) ∧ gb < w'.heap.size ∧ Wl (Ad A gb) p true none (fun _ => false) w')

set_option maxHeartbeats 1000000 in
theorem Collect_W {on : Nat → Bool} (hA : ∀ c, A c → c < w.heap.size) (hw : Wl A p true (some on) on w) :
    Calls Tryz.prog 54 #[.pointer (some ⟨p.cb, 0, none⟩), .int .i64 1] w (ColPost A p on w) := by
  have HG := guest_W (.on1 on) hA hw
  go_enter Tryz.func54, Tryz.ntmps54
  go_wp2_with (first
    | (go_at_call 108; refine HG.mono ?_; rintro e w1 ⟨rfl, hw1, hk1⟩; have HL := Log_W (.on1 on) (hk1.in hA) hw1)
    | (go_at_call 109; refine HL.mono ?_; rintro e w2 ⟨rfl, hw2, hk2⟩; have HCOL := Col_W (hk2.in (hk1.in hA)) hw2)
    | (go_at_call 119; refine HCOL.mono ?_; rintro e w3 ⟨V, rfl, hk3, hV⟩))
  have hk13 : Kp A w w3 := (hk1.trans hk2).trans hk3
  clear HG HL HCOL
  rcases hV with ⟨rfl, h0, hw3⟩ | ⟨gb, cp, rfl, h0, h1, h2, h3, hw3⟩
  · go_wp2_with (go_at_call 115; refine (refresh0_W _ _).mono ?_; rintro e w4 ⟨rfl, rfl⟩)
    go_ret2
    have h8 := updL_all (on := on)
    rw [h0, updL_nil] at h8
    exact ⟨_, rfl, hk13, .inl ⟨rfl, h0, hw3.off (fun j hj => (h8 j hj).symm)⟩⟩
  · have hA3 : ∀ c, Ad A gb c → c < w3.heap.size := fun c hc => by
      rcases hc with hc | rfl
      · exact hk13.in hA c hc
      · exact h3
    have HR := refresh_W (A := Ad A gb) (L := bitsF on 8) (cp := cp) (fun x hx => bits_lt hx) (bits_len on 8) h1 hA3 (.inr rfl) h2 hw3
    go_wp2_with (go_at_call 115; refine HR.mono ?_; rintro e w4 ⟨rfl, hw4, hk4⟩)
    go_ret2
    have hk4' : Kp A w3 w4 := hk4.sub (fun c hc => .inl hc)
    exact ⟨_, rfl, hk13.trans hk4', .inr ⟨gb, cp, rfl, h1, h2.kept (hk4.block gb (.inr rfl)), Nat.lt_of_lt_of_le h3 hk4.size, hw4.off (fun j hj => (updL_all j hj).symm)⟩⟩

set_option maxHeartbeats 1000000 in
theorem Unlog_W {ws : Option (Nat → Bool)} {tb : Nat → Bool} (s : Shp true ws) (hA : ∀ c, A c → c < w.heap.size) (hw : Wl A p true ws tb w) :
    Calls Tryz.prog 56 #[.pointer (some ⟨p.cb, 0, none⟩), .int .i64 1] w fun e w' => e = .returned (.int .i64 0) ∧ Wl A p false none (fun _ => true) w' ∧ Kp A w w' := by
  have HG := guest_W s hA hw
  go_enter Tryz.func56, Tryz.ntmps56
  go_wp2_with (first
    | (go_at_call 108; refine HG.mono ?_; rintro e w1 ⟨rfl, hw1, hk1⟩; have HL := Log_W s (hk1.in hA) hw1)
    | (go_at_call 109; refine HL.mono ?_; rintro e w2 ⟨rfl, hw2, hk2⟩; have HS := Stop_W s (hk2.in (hk1.in hA)) hw2)
    | (go_at_call 121; refine HS.mono ?_; rintro e w3 ⟨rfl, hw3, hk3⟩; have HP := Pages_W .off (hk3.in (hk2.in (hk1.in hA))) hw3)
    | (go_at_call 16; refine HP.mono ?_; rintro e w4 ⟨rfl, hw4, hk4⟩; have HLL := List_W (hk4.in (hk3.in (hk2.in (hk1.in hA)))) hw4)
    | (go_at_call 64; refine HLL.mono ?_; rintro e w5 ⟨gb, cp, rfl, hk5, h1, h2, h3, hw5⟩;
       have hA5 : ∀ c, Ad A gb c → c < w5.heap.size := (fun c hc => by
         rcases hc with hc | rfl
         · exact hk5.in (hk4.in (hk3.in (hk2.in (hk1.in hA)))) c hc
         · exact h3)
       have HR := refresh_W (A := Ad A gb) (L := [0, 1, 2, 3, 4, 5, 6, 7]) (cp := cp) (fun x hx => by simp at hx; omega) (by decide) h1 hA5 (.inr rfl) h2 hw5)
    | (go_at_call 115; refine HR.mono ?_; rintro e w6 ⟨rfl, hw6, hk6⟩))
  go_ret
  have hk6' : Kp A w5 w6 := hk6.sub (fun c hc => .inl hc)
  refine ⟨rfl, (hw6.mono (fun c hc => .inl hc)).off (fun j hj => ?_), ((((hk1.trans hk2).trans hk3).trans hk4).trans hk5).trans hk6'⟩
  unfold updL
  rw [if_pos (by simp; omega)]
  rfl
end
end Go.Proofs.YtcdjgnpjapgoaaaGreat
