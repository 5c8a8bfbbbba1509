/- The law's own blocks beside the machine's. -/
import Derived.Test.YtcdjgnpjapgoaaaGreatRW
import Derived.Test.YtcdjgnpjapgoaaaGreatRDp0
import Derived.Test.YtcdjgnpjapgoaaaGreatRDp1
import Derived.Test.YtcdjgnpjapgoaaaGreatRDp2
import Derived.Test.YtcdjgnpjapgoaaaGreatRGP20
import Derived.Test.YtcdjgnpjapgoaaaGreatRTZ
import Derived.OwnWalk
import Derived.Deep.LoopGhost
set_option linter.unusedVariables false
set_option linter.unusedSimpArgs false
set_option linter.unusedSectionVars false
namespace Go.Proofs.YtcdjgnpjapgoaaaGreat
open Go Go.RowKit Go.Lib Go.Proofs.YtcdjgnpjapgoaaaGreat.Dm
noncomputable def upL (id : Nat) : Up := cnd (Nat.ble 10 id && Nat.blt id 18) (.set 67) .keep
theorem inL : ∀ b ∈ [200, 202, 204], b ∈ baseL := by
  intro b hb
  simp only [List.mem_cons, List.not_mem_nil, or_false] at hb
  rcases hb with rfl | rfl | rfl <;> decide

noncomputable def alL (f : Nat → Bool) : List Nat → Bool
  | [] => true
  | a :: l => f a && alL f l
theorem upL_at (j : Nat) (hj : j < 8) : upL (10 + j) = .set 67 := by
  unfold upL
  rw [show Nat.ble 10 (10 + j) = true from Nat.ble_eq_true_of_le (by omega), show Nat.blt (10 + j) 18 = true from Nat.ble_eq_true_of_le (by omega)]
  rfl
theorem upL_le {id k : Nat} (ha : upL id = .set k) : k ≤ 255 := by
  unfold upL at ha
  cases hb : (Nat.ble 10 id && Nat.blt id 18) with
  | true => rw [hb] at ha; simp only [cnd_true, Up.set.injEq] at ha; omega
  | false => rw [hb] at ha; cases ha

theorem first_gen {h0 hT g' : Heap} {v : AV} {σ : Nat → Nat} {α : Nat → Up} (hα : ∀ j, j < 8 → α (10 + j) = .set 67) (hle2 : ∀ id k, α id = .set k → k ≤ 255) (K : KnownH Tryz.prog 52 [cN, nI 1] h0 v hT) (h11 : 11 < h0.next) (h1 : okN 0 v = true) (h2 : Nat.ble hT.next (atomKey 0) = true) (h3 : injL (mapN σ baseL) = true) (hg10 : g'.next = 10000) (h4 : mtF (svU σ α 10000) σ 10000 hT.t g'.t baseL = true) (hp : pick g'.t baseL = g'.t) (s1 : σ 11 = 11)
    {A : Nat → Prop} {cb : Nat} {w : World} {ι : Io} (hA : ∀ c, A c → c < w.heap.size) (rep : Rep ι w h0) {Nc : Nat} (hc : ι 11 = some (cb, Nc)) (hf : Free ι h0.next (atomKey 0)) (hat : ∀ id, ι (atomKey id) = none) (hno : ∀ b o c N, h0.get b = some o → ι b = some (c, N) → ¬ A c) :
    Calls Tryz.prog 52 #[.pointer (some ⟨cb, 0, none⟩), .int .i64 1] w fun e w' => e = .returned (.int .i64 0) ∧ (∃ (p : Pl) (ι2 : Io), p.cb = cb ∧ Has ι2 A p g' w' ∧ ∀ j, j < 8 → AtK ι2 (10 + j) 67) ∧ Kp A w w' := by
  obtain ⟨hE, hle, hx⟩ := K
  have hn := Nat.le_of_ble_eq_true h2
  have has : ARs ι [cN, nI 1] (#[.pointer (some ⟨cb, 0, none⟩), .int .i64 1] : Array Value).toList := ⟨⟨cb, Nc, hc, rfl⟩, rfl, trivial⟩
  refine (hx ι w _ rep has (hf.mono hn)).mono ?_
  rintro e w' ⟨V, ι1, rfl, hv, q⟩
  have hat1 : ∀ id, ι1 (atomKey id) = none := fun id => by
    rw [q.ext (atomKey id) (.inr (Nat.le_trans hn (Nat.add_le_add_left (Nat.zero_le id) _)))]; exact hat id
  have hcb1 : ι1 11 = some (cb, Nc) := by rw [q.ext 11 (.inl h11)]; exact hc
  have m : Mu ι1 (io3 σ α cb ι1) σ α 10000 := by
    refine ⟨fun b hb => io3_lt hb, fun id h1 c u h2 => ?_, fun id u h1 => ?_, fun id k h1 c u h2 => ?_⟩
    · rw [hat1] at h2; cases h2
    · rw [io3_at, hat1]
      have ha : α id = .set u := by
        cases ha : α id with
        | set n => rw [ha] at h1; rw [Nat.eq_of_beq_eq_true (show Nat.beq n u = true from h1)]
        | keep => rw [ha] at h1; cases h1
        | orB k => rw [ha] at h1; cases h1
      rw [ha]
      exact ⟨_, rfl⟩
    · rw [hat1] at h2; cases h2
  have hcbw := q.rep.dom _ _ _ hcb1
  have hdom : ∀ b c N, io3 σ α cb ι1 b = some (c, N) → c < w'.heap.size := by
    intro b c N hb
    unfold io3 at hb
    split at hb
    · exact q.rep.dom _ _ _ hb
    · split at hb
      · split at hb
        · rename_i c1 r1 he
          simp only [Option.some.injEq, Prod.mk.injEq] at hb
          obtain ⟨rfl, _⟩ := hb
          exact q.rep.dom _ _ _ he
        · split at hb
          · simp only [Option.some.injEq, Prod.mk.injEq] at hb
            rw [← hb.1]; exact hcbw
          · cases hb
      · cases hb
  have hrep := Rep.mf (ι' := io3 σ α cb ι1) (g := g') q.rep (fun b hb => io3_lt (by rw [hg10] at hb; exact hb)) (svU_sound m) (fun b o hb => l_of hp hb) hdom h3 (by rw [hg10]; exact h4)
  have hg : ∀ b ∈ [200, 202, 204], ∃ c N, io3 σ α cb ι1 b = some (c, N) := by
    intro b hb
    obtain ⟨_, x, y, k2, k3, _⟩ := mtF_get h4 b (inL b hb)
    obtain ⟨c, N, e1, _⟩ := hrep.obj b y k3
    exact ⟨c, N, e1⟩
  obtain ⟨tb, N1, e1⟩ := hg 200 (by simp)
  obtain ⟨pg, N2, e2⟩ := hg 202 (by simp)
  obtain ⟨lg, N3, e3⟩ := hg 204 (by simp)
  have hV : V = .int .i64 0 := by rw [okN_v h1 hv]; rfl
  refine ⟨by rw [hV], ⟨⟨cb, tb, pg, lg⟩, io3 σ α cb ι1, rfl, ⟨hrep, ⟨Nc, ?_⟩, ⟨N1, e1⟩, ⟨N2, e2⟩, ⟨N3, e3⟩, ?_, ?_, ?_⟩, fun j hj => ?_⟩, ⟨q.os, q.tape, q.output, q.size, fun c hAc => q.frame c (hA c hAc) (fun b o N hb hι => hno b o c N hb hι hAc)⟩⟩
  · rw [io3_lt (by omega), s1]; exact hcb1
  · intro b hb hb'
    unfold io3
    rw [if_neg (by omega), if_neg (by omega)]
  · rintro id n ⟨c, hn⟩
    rw [io3_at, hat1] at hn
    cases ha : α id with
    | set k =>
      rw [ha] at hn
      simp only [Option.some.injEq, Prod.mk.injEq] at hn
      rw [← hn.2]
      exact hle2 _ _ ha
    | keep => rw [ha] at hn; cases hn
    | orB k => rw [ha] at hn; cases hn
  · intro b o c N hb hι hAc
    obtain ⟨k1, x, y, k2, k3, k4⟩ := mtF_get h4 b (l_of hp hb)
    rw [io3_lt k1] at hι
    rcases q.fresh _ x c N k2 hι with ⟨b0, o0, N0, g1, g2⟩ | hh
    · exact hno b0 o0 c N0 g1 g2 hAc
    · have := hA c hAc; omega
  · unfold AtK
    rw [io3_at, hat1, hα j hj]
    exact ⟨_, rfl⟩

end Go.Proofs.YtcdjgnpjapgoaaaGreat

set_option maxRecDepth 100000
namespace Go.Proofs.YtcdjgnpjapgoaaaGreat
open Go Go.RowKit Go.Lib Go.Proofs.YtcdjgnpjapgoaaaGreat.Dm

/-- While pages are made: the pair and its machines. -/
def Wd (A : Nat → Prop) (pb : Nat) (g : Heap) (w : World) : Prop :=
  ∃ ι, Rep ι w g ∧ (∃ N, ι 220 = some (pb, N)) ∧ Free ι g.next (atomKey 0) ∧ (∀ id, ι (atomKey id) = none) ∧ ∀ b o c N, g.get b = some o → ι b = some (c, N) → ¬ A c

theorem pruneC_ok {L : List Nat} {r : CRes} {v : AV} {g : Heap} (h : pruneC L r = .ok v g) : ∃ h', r = .ok v h' ∧ g = ⟨h'.next, pick h'.t L⟩ := by
  cases r with
  | bad n => cases h
  | ok v' h' =>
    simp only [pruneC, CRes.ok.injEq] at h
    obtain ⟨rfl, rfl⟩ := h
    exact ⟨h', rfl, rfl⟩

theorem step_d {f : FuncId} {args : List AV} {g g' : Heap} {L : List Nat} {v : AV} (hr : pruneC L ((evR 600).c f args g) = .ok v g') (hn : Nat.ble g'.next (atomKey 0) = true) (h220 : 220 < g.next)
    {A : Nat → Prop} {pb : Nat} {w : World} (hA : ∀ c, A c → c < w.heap.size) (hw : Wd A pb g w) {vs : Array Value} (has : ∀ ι, (∃ N, ι 220 = some (pb, N)) → ARs ι args vs.toList) :
    Calls Tryz.prog f vs w fun e w' => ∃ V ι1, e = .returned V ∧ AVR ι1 v V ∧ Wd A pb g' w' ∧ Kp A w w' := by
  obtain ⟨h', hr', rfl⟩ := pruneC_ok hr
  obtain ⟨ι, rep, ⟨N, hp⟩, hf, hat, hno⟩ := hw
  obtain ⟨hE, hle, hx⟩ := (evR_ok 600).2 f args g v h' hr'
  have hn := Nat.le_of_ble_eq_true hn
  have hn' : h'.next ≤ atomKey 0 := hn
  refine (hx ι w vs rep (has ι ⟨N, hp⟩) (hf.mono hn')).mono ?_
  rintro e w' ⟨V, ι1, rfl, hv, q⟩
  refine ⟨V, ι1, rfl, hv, ⟨ι1, q.rep.pick, ⟨N, by rw [q.ext _ (.inl h220)]; exact hp⟩, ?_, fun id => ?_, fun b o c N hb hι hAc => ?_⟩, ⟨q.os, q.tape, q.output, q.size, fun c hAc => q.frame c (hA c hAc) (fun b o N hb hι => hno b o c N hb hι hAc)⟩⟩
  · intro b hb hb'
    rw [q.ext b (.inr hb)]
    exact hf b (Nat.le_trans hle hb) hb'
  · rw [q.ext (atomKey id) (.inr (Nat.le_trans hn' (Nat.add_le_add_left (Nat.zero_le id) _)))]; exact hat id
  · rcases q.fresh b o c N (pick_get hb) hι with ⟨b0, o0, N0, g1, g2⟩ | hh
    · exact hno b0 o0 c N0 g1 g2 hAc
    · have := hA c hAc; omega

noncomputable def DS : Nat → Heap
  | 0 => D0 | 1 => D1 | 2 => D2 | 3 => D3 | 4 => D4 | 5 => D5 | 6 => D6 | 7 => D7 | _ => D8

theorem Begun_W (w : World) : Calls Tryz.prog 50 #[.agg #[.int .i64 40, .int .i64 10, .int .i64 0, .int .i64 2, .int .i64 1, .int .i64 1]] w fun e w' => ∃ pb, e = .returned (.tuple #[.pointer (some ⟨pb, 0, none⟩), .bool true]) ∧
    Wd (fun c => c < w.heap.size) pb (DS 0) w' ∧ Kp (fun c => c < w.heap.size) w w' := by
  obtain ⟨h', hr, hD⟩ := pruneC_ok dB
  obtain ⟨hE, hle, hx⟩ := (evR_ok 600).2 50 [cfgA] Heap.nil _ h' hr
  have hD : D0 = ⟨h'.next, pick h'.t DL0⟩ := hD
  have hnx : h'.next = 221 := by
    have : D0.next = h'.next := by rw [hD]
    rw [← this]; rfl
  refine (hx (fun _ => none) w #[.agg #[.int .i64 40, .int .i64 10, .int .i64 0, .int .i64 2, .int .i64 1, .int .i64 1]] ⟨fun b o h => (by cases h), fun b o h => (by cases h), fun b b' o o' c N N' h => (by cases h), fun b c N h => (by cases h)⟩
    ⟨⟨_, rfl, rfl, rfl, rfl, rfl, rfl, rfl, trivial⟩, trivial⟩ (fun _ _ _ => rfl)).mono ?_
  rintro e w' ⟨V, ι1, rfl, hv, q⟩
  obtain ⟨a, rfl, hv⟩ := hv
  obtain ⟨a⟩ := a
  match a, hv with
  | [x, y], ⟨k1, k2, _⟩ =>
    obtain ⟨pb, N, i1, rfl⟩ := k1
    obtain rfl : y = .bool true := k2
    refine ⟨pb, rfl, ⟨ι1, by show Rep ι1 w' D0; rw [hD]; exact q.rep.pick, ⟨N, i1⟩, ?_, fun id => ?_, fun b o c N hb hι hAc => ?_⟩, ⟨q.os, q.tape, q.output, q.size, fun c hc => q.frame c hc (fun b o N hb => by cases hb)⟩⟩
    · intro b hb hb'
      rw [q.ext b (.inr (by rw [hnx]; exact hb))]
    · rw [q.ext (atomKey id) (.inr (by rw [hnx]; show 221 ≤ 1000000000000 + id; omega))]
    · have hb : D0.get b = some o := hb
      rw [hD] at hb
      rcases q.fresh b o c N (pick_get hb) hι with ⟨b0, o0, N0, hh, _⟩ | hh
      · cases hh
      · have hAc : c < w.heap.size := hAc
        omega
  | [], h => exact h.elim
  | [_], h => exact h.2.elim
  | _ :: _ :: _ :: _, h => exact h.2.2.elim

theorem dM : ∀ k, k < 8 → ∃ L, pruneC L ((evR 600).c 51 [pN, mI 1, mU k] (DS k)) = .ok yes (DS (k + 1))
  | 0, _ => ⟨_, dM0⟩ | 1, _ => ⟨_, dM1⟩ | 2, _ => ⟨_, dM2⟩ | 3, _ => ⟨_, dM3⟩ | 4, _ => ⟨_, dM4⟩ | 5, _ => ⟨_, dM5⟩ | 6, _ => ⟨_, dM6⟩ | 7, _ => ⟨_, dM7⟩
  | n + 8, h => absurd h (by omega)
theorem DS_next : ∀ k, 220 < (DS k).next ∧ Nat.ble (DS k).next (atomKey 0) = true := by
  intro k
  unfold DS
  split <;> exact ⟨by decide, by decide⟩

theorem made_W {k : Nat} (hk : k < 8) {A : Nat → Prop} {pb : Nat} {w : World} (hA : ∀ c, A c → c < w.heap.size) (hw : Wd A pb (DS k) w) :
    Calls Tryz.prog 51 #[.pointer (some ⟨pb, 0, none⟩), .int .i64 1, .int .u64 (k : Int)] w fun e w' => e = .returned (.bool true) ∧ Wd A pb (DS (k + 1)) w' ∧ Kp A w w' := by
  obtain ⟨L, h⟩ := dM k hk
  refine (step_d h (DS_next _).2 (DS_next k).1 hA hw (fun ι hp => ?_)).mono ?_
  · obtain ⟨N, hp⟩ := hp
    exact ⟨⟨pb, N, hp, rfl⟩, rfl, rfl, trivial⟩
  · rintro e w' ⟨V, ι1, rfl, hv, h1, h2⟩
    obtain rfl : V = .bool true := hv
    exact ⟨rfl, h1, h2⟩

/-- The machine alone, ahead of its log. -/
def Ws (A : Nat → Prop) (cb : Nat) (w : World) : Prop :=
  ∃ ι, Rep ι w rgh0_lg ∧ (∃ N, ι 11 = some (cb, N)) ∧ Free ι rgh0_lg.next (atomKey 0) ∧ (∀ id, ι (atomKey id) = none) ∧ ∀ b o c N, rgh0_lg.get b = some o → ι b = some (c, N) → ¬ A c

theorem s8_eq : rgh0_lg = ⟨D8.next, pick D8.t SL8⟩ := by kernel_rfl
noncomputable def okPair : Bool := match D8.get 220 with
  | some (.cells r _) => (match r.get 0 with
    | some (.p 11 0) => true
    | _ => false) && !(SL8.any fun b => Nat.beq b 220)
  | _ => false
theorem okPair_t : okPair = true := by kernel_rfl

theorem pick_in {α : Type} {t : Tr α} {b : Nat} {o : α} : ∀ {l : List Nat}, (pick t l).get b = some o → b ∈ l
  | [], h => by cases h
  | c :: l, h => by
    unfold pick at h
    cases hc : t.get c with
    | none => rw [hc] at h; exact List.mem_cons_of_mem _ (pick_in h)
    | some x =>
      rw [hc] at h
      simp only [Tr.get_put] at h
      by_cases hb : b = c
      · subst hb; exact List.mem_cons_self
      · rw [if_neg hb] at h; exact List.mem_cons_of_mem _ (pick_in h)

/-- All pages are made: the pair's block is the law's. -/
theorem Ws_of {A : Nat → Prop} {pb : Nat} {w : World} (hw : Wd A pb (DS 8) w) : ∃ cb, ¬ A pb ∧ pb < w.heap.size ∧ w.cell? ⟨pb, 0, none⟩ = some (.pointer (some ⟨cb, 0, none⟩)) ∧ Ws (Ad A pb) cb w := by
  obtain ⟨ι, rep, ⟨N, hp⟩, hf, hat, hno⟩ := hw
  have rep : Rep ι w D8 := rep
  have hok := okPair_t
  unfold okPair at hok
  split at hok
  · rename_i r ro hb
    simp only [Bool.and_eq_true, Bool.not_eq_true'] at hok
    obtain ⟨o1, o2⟩ := hok
    split at o1
    · rename_i h0
      obtain ⟨pb', N', g1, cs, el, fr, g2, g3, g4, g5, g6⟩ := rep.obj 220 _ hb
      rw [hp] at g1
      simp only [Option.some.injEq, Prod.mk.injEq] at g1
      obtain ⟨rfl, rfl⟩ := g1
      obtain ⟨V, u1, cb, Nc, u2, rfl⟩ := g5 0 _ h0
      refine ⟨cb, hno 220 _ _ _ hb hp, rep.dom _ _ _ hp, ?_, ι, ?_, ⟨Nc, u2⟩, hf, hat, fun b o c N hb' hι hA => ?_⟩
      · simp only [World.cell?, g2]; simpa using u1
      · rw [s8_eq]; exact rep.pick
      · rw [s8_eq] at hb'
        have hb2 := pick_get (t := D8.t) hb'
        rcases hA with hA | rfl
        · exact hno b o c N hb2 hι hA
        · have := rep.inj b 220 o _ _ _ _ hb2 hb hι hp
          subst this
          have : (SL8.any fun b => Nat.beq b 220) = true := List.any_eq_true.2 ⟨220, pick_in (t := D8.t) hb', rfl⟩
          rw [this] at o2; cases o2
    · cases o1
  · cases hok

noncomputable def chkLg : Bool := okN 0 rgv_lg && (Nat.ble rghT_lg.next (atomKey 0) && (injL (mapN (sgN (rowB rghT_lg.t) (wmB rghT_lg.t)) baseL) && mtF (svU (sgN (rowB rghT_lg.t) (wmB rghT_lg.t)) upL 10000) (sgN (rowB rghT_lg.t) (wmB rghT_lg.t)) 10000 rghT_lg.t (stt true w0 atB).t baseL))
theorem cLg : chkLg = true := by kernel_rfl

theorem lgArgs : rgargs_lg = [cN, nI 1] := by kernel_rfl

theorem kgf : rgkc_lg.f = 52 := by kernel_rfl
theorem kgh : rgkc_lg.h = rgh0_lg := by kernel_rfl
theorem kgt : rgkc_lg.h' = rghT_lg := by kernel_rfl
theorem kgv : rgkc_lg.v = rgv_lg := by kernel_rfl
theorem kga : rgkc_lg.args = [cN, nI 1] := by kernel_rfl
theorem lgK : KnownH Tryz.prog 52 [cN, nI 1] rgh0_lg rgv_lg rghT_lg := by
  have h := rgok_lg.1
  rw [kgf, kgh, kgt, kgv, kga] at h
  exact h

theorem h11 : 11 < rgh0_lg.next := Nat.le_of_ble_eq_true (by kernel_rfl)
theorem lgParts : okN 0 rgv_lg = true ∧ Nat.ble rghT_lg.next (atomKey 0) = true ∧ injL (mapN (sgN (rowB rghT_lg.t) (wmB rghT_lg.t)) baseL) = true ∧ mtF (svU (sgN (rowB rghT_lg.t) (wmB rghT_lg.t)) upL 10000) (sgN (rowB rghT_lg.t) (wmB rghT_lg.t)) 10000 rghT_lg.t (stt true w0 atB).t baseL = true := by
  have hck := cLg
  unfold chkLg at hck
  simp only [Bool.and_eq_true] at hck
  exact hck

/-- The log is begun. -/
theorem LogFirst_W {A : Nat → Prop} {cb : Nat} {w : World} (hA : ∀ c, A c → c < w.heap.size) (hw : Ws A cb w) :
    Calls Tryz.prog 52 #[.pointer (some ⟨cb, 0, none⟩), .int .i64 1] w fun e w' => e = .returned (.int .i64 0) ∧ (∃ p : Pl, p.cb = cb ∧ Wl A p true none (fun _ => false) w') ∧ Kp A w w' := by
  obtain ⟨ι, rep, ⟨Nc, hc⟩, hf, hat, hno⟩ := hw
  obtain ⟨h1, h2, h3, h4⟩ := lgParts
  refine (first_gen upL_at (fun _ _ h => upL_le h) lgK h11 h1 h2 h3 rfl h4 pk0 (sgs _).1 hA rep hc hf hat hno).mono ?_
  rintro e w' ⟨rfl, ⟨p, ι2, hp, hH, hb⟩, hk⟩
  exact ⟨rfl, ⟨p, hp, ι2, hH, hb, fun f hf => by cases hf⟩, hk⟩
end Go.Proofs.YtcdjgnpjapgoaaaGreat

namespace Go.Proofs.YtcdjgnpjapgoaaaGreat
open Go Go.RowKit Go.Lib Go.Proofs.YtcdjgnpjapgoaaaGreat.Dm

/-- What lies ahead, and these blocks. -/
def Own (n : Nat) (l : List Nat) (c : Nat) : Prop := c < n ∨ c ∈ l

/-- What is said of the machine hangs on its own blocks alone. -/
structure Mch (M : (Nat → Prop) → World → Prop) : Prop where
  upd : ∀ {A : Nat → Prop} {w w' : World}, M A w → (∀ c, ¬ A c → c < w.heap.size → w'.heap[c]? = w.heap[c]?) → w.heap.size ≤ w'.heap.size → M A w'
  anti : ∀ {A B : Nat → Prop} {w : World}, M A w → (∀ c, B c → A c) → M B w
  more : ∀ {A B : Nat → Prop} {w : World}, M A w → (∀ c, B c → A c ∨ w.heap.size ≤ c) → M B w

theorem Rep.upd {A : Nat → Prop} {ι : Io} {g : Heap} {w w' : World} (rep : Rep ι w g) (hno : ∀ b o c N, g.get b = some o → ι b = some (c, N) → ¬ A c) (hs : ∀ c, ¬ A c → c < w.heap.size → w'.heap[c]? = w.heap[c]?) (hz : w.heap.size ≤ w'.heap.size) : Rep ι w' g := by
  refine ⟨rep.lt, fun b o hb => ?_, rep.inj, fun b c N hb => Nat.lt_of_lt_of_le (rep.dom b c N hb) hz⟩
  obtain ⟨c, N, e1, e2⟩ := rep.obj b o hb
  exact ⟨c, N, e1, OR.mono (Sub.refl ι) (hs c (hno b o c N hb e1) (rep.dom b c N e1)) e2⟩

theorem no_more {A B : Nat → Prop} {ι : Io} {g : Heap} {w : World} (rep : Rep ι w g) (hno : ∀ b o c N, g.get b = some o → ι b = some (c, N) → ¬ A c) (hs : ∀ c, B c → A c ∨ w.heap.size ≤ c) : ∀ b o c N, g.get b = some o → ι b = some (c, N) → ¬ B c := by
  intro b o c N hb hι hB
  rcases hs c hB with h | h
  · exact hno b o c N hb hι h
  · have := rep.dom b c N hι; omega

theorem Ws.mch (cb : Nat) : Mch (fun A w => Ws A cb w) where
  upd h hs hz := by
    obtain ⟨ι, rep, i1, hf, hat, hno⟩ := h
    exact ⟨ι, Rep.upd rep hno hs hz, i1, hf, hat, hno⟩
  anti h hs := by
    obtain ⟨ι, rep, i1, hf, hat, hno⟩ := h
    exact ⟨ι, rep, i1, hf, hat, fun b o c N h1 h2 h3 => hno b o c N h1 h2 (hs c h3)⟩
  more h hs := by
    obtain ⟨ι, rep, i1, hf, hat, hno⟩ := h
    exact ⟨ι, rep, i1, hf, hat, no_more rep hno hs⟩
theorem Wl.mch (p : Pl) (lg : Bool) (ws : Option (Nat → Bool)) (tb : Nat → Bool) : Mch (fun A w => Wl A p lg ws tb w) where
  upd h hs hz := by
    obtain ⟨ι, hH, hb, hn⟩ := h
    exact ⟨ι, ⟨Rep.upd hH.rep hH.no hs hz, hH.c, hH.t, hH.pg, hH.l, hH.free, hH.le, hH.no⟩, hb, hn⟩
  anti h hs := h.mono hs
  more h hs := by
    obtain ⟨ι, hH, hb, hn⟩ := h
    exact ⟨ι, ⟨hH.rep, hH.c, hH.t, hH.pg, hH.l, hH.free, hH.le, no_more hH.rep hH.no hs⟩, hb, hn⟩
theorem Wo.mch (p : Pl) (on : Nat → Bool) : Mch (fun A w => Wo A p on w) where
  upd h hs hz := by
    rcases h with ⟨h, h0⟩ | h
    · exact .inl ⟨(Wl.mch p true none on).upd h hs hz, h0⟩
    · exact .inr ((Wl.mch p true (some on) on).upd h hs hz)
  anti h hs := by
    rcases h with ⟨h, h0⟩ | h
    · exact .inl ⟨h.mono hs, h0⟩
    · exact .inr (h.mono hs)
  more h hs := by
    rcases h with ⟨h, h0⟩ | h
    · exact .inl ⟨(Wl.mch p true none on).more h hs, h0⟩
    · exact .inr ((Wl.mch p true (some on) on).more h hs)

theorem cell_of_block {w : World} {cs : Array Value} {t : TypeId} {fr : Nat × Nat} {b j : Nat} {v : Value} (h : w.heap[b]? = some (.cells cs t fr)) (hj : cs[j]? = some v) : w.cell? ⟨b, j, none⟩ = some v := by
  simp only [World.cell?, h]; simpa using hj
theorem frozen_of_block {w : World} {cs : Array Value} {t : TypeId} {b j : Nat} (h : w.heap[b]? = some (.cells cs t)) : w.frozen? ⟨b, j, none⟩ = false := by
  simp only [World.frozen?, h]
  simp
theorem cell_same {w w' : World} {b : Nat} (h : w'.heap[b]? = w.heap[b]?) (j : Nat) : w'.cell? ⟨b, j, none⟩ = w.cell? ⟨b, j, none⟩ := by
  simp only [World.cell?, h]
theorem heap_set (w : World) (b j : Nat) (v : Value) (c : Nat) (h : c ≠ b) : (w.setCell ⟨b, j, none⟩ v).heap[c]? = w.heap[c]? := by
  simp [World.setCell, Array.getElem?_modify, Ne.symm h]
theorem size_set (w : World) (b j : Nat) (v : Value) : (w.setCell ⟨b, j, none⟩ v).heap.size = w.heap.size := by
  simp [World.setCell]
theorem heap_alloc (w : World) (o : Obj) {c : Nat} (hc : c < w.heap.size) : (w.alloc o).heap[c]? = w.heap[c]? := by
  show (w.heap.push o)[c]? = _
  rw [Array.getElem?_push, if_neg (by omega)]

/-- The law's blocks, and the machine. -/
structure Lx (W : World) (M : (Nat → Prop) → World → Prop) (pb cb : Nat) (l : List Nat) (w : World) : Prop where
  bl : Below W.heap.size W w
  pc : w.cell? ⟨pb, 0, none⟩ = some (.pointer (some ⟨cb, 0, none⟩))
  wm : M (Own W.heap.size l) w
  inl : pb ∈ l
  ge : ∀ c ∈ l, W.heap.size ≤ c ∧ c < w.heap.size

section
variable {W : World} {M M' : (Nat → Prop) → World → Prop} {pb cb : Nat} {l : List Nat} {w w' : World}

theorem Lx.lt (h : Lx W M pb cb l w) : ∀ c, Own W.heap.size l c → c < w.heap.size := by
  intro c hc
  rcases hc with hc | hc
  · exact Nat.lt_of_lt_of_le hc h.bl.size
  · exact (h.ge c hc).2

theorem Lx.call (h : Lx W M pb cb l w) (hw : M' (Own W.heap.size l) w') (hk : Kp (Own W.heap.size l) w w') : Lx W M' pb cb l w' where
  bl := ⟨hk.os.trans h.bl.os, hk.tape.trans h.bl.tape, hk.output.trans h.bl.output, Nat.le_trans h.bl.size hk.size, fun c hc => (hk.block c (.inl hc)).trans (h.bl.block c hc)⟩
  pc := by rw [cell_same (hk.block pb (.inr h.inl))]; exact h.pc
  wm := hw
  inl := h.inl
  ge c hc := ⟨(h.ge c hc).1, Nat.lt_of_lt_of_le (h.ge c hc).2 hk.size⟩

theorem Lx.alloc (hM : Mch M) (h : Lx W M pb cb l w) (o : Obj) : Lx W M pb cb (w.heap.size :: l) (w.alloc o) := by
  have hz : (w.alloc o).heap.size = w.heap.size + 1 := by simp
  refine ⟨⟨h.bl.os, h.bl.tape, h.bl.output, by have := h.bl.size; omega, fun c hc => ?_⟩, ?_, ?_, List.mem_cons_of_mem _ h.inl, fun c hc => ?_⟩
  · rw [heap_alloc w o (Nat.lt_of_lt_of_le hc h.bl.size)]; exact h.bl.block c hc
  · rw [cell_same (heap_alloc w o (h.ge pb h.inl).2)]; exact h.pc
  · have h1 := hM.more h.wm (B := Own W.heap.size (w.heap.size :: l)) (fun c hc => by
      rcases hc with hc | hc
      · exact .inl (.inl hc)
      · rcases List.mem_cons.1 hc with rfl | hc
        · exact .inr (Nat.le_refl _)
        · exact .inl (.inr hc))
    exact hM.upd h1 (fun c _ hc => heap_alloc w o hc) (by omega)
  · rcases List.mem_cons.1 hc with rfl | hc
    · exact ⟨h.bl.size, by omega⟩
    · have := h.ge c hc; omega

/-- A block that is the law's alone is changed. -/
theorem Lx.upd (hM : Mch M) (h : Lx W M pb cb l w) {b : Nat} (hb : b ∈ l) (hp : b ≠ pb) (hs : ∀ c, c ≠ b → w'.heap[c]? = w.heap[c]?) (hz : w'.heap.size = w.heap.size) (ho : w'.os = w.os ∧ w'.tape = w.tape ∧ w'.output = w.output) : Lx W M pb cb l w' where
  bl := ⟨ho.1.trans h.bl.os, ho.2.1.trans h.bl.tape, ho.2.2.trans h.bl.output, by have := h.bl.size; omega, fun c hc => by
    rw [hs c (fun e => by have := (h.ge b hb).1; omega)]; exact h.bl.block c hc⟩
  pc := by rw [cell_same (hs pb (Ne.symm hp))]; exact h.pc
  wm := hM.upd h.wm (fun c hc _ => hs c (fun e => hc (.inr (e ▸ hb)))) (by omega)
  inl := h.inl
  ge c hc := by have := h.ge c hc; omega

theorem Lx.less (hM : Mch M) (h : Lx W M pb cb l w) {l' : List Nat} (hs : ∀ c ∈ l', c ∈ l) (hp : pb ∈ l') : Lx W M pb cb l' w where
  bl := h.bl
  pc := h.pc
  wm := hM.anti h.wm (fun c hc => by
    rcases hc with hc | hc
    · exact .inl hc
    · exact .inr (hs c hc))
  inl := hp
  ge c hc := h.ge c (hs c hc)

theorem Lx.drew (hM : Mch M) (h : Lx W M pb cb l w) : Lx W M pb cb l w.drew :=
  ⟨⟨h.bl.os, h.bl.tape, h.bl.output, h.bl.size, h.bl.block⟩, h.pc, hM.upd h.wm (fun _ _ _ => rfl) (Nat.le_refl _), h.inl, h.ge⟩

theorem Lx.below (hM : Mch M) (h : Lx W M pb cb l w) (hb : Below w.heap.size w w') : Lx W M pb cb l w' :=
  h.call (hM.upd h.wm (fun c _ hc => hb.block c hc) hb.size) ⟨hb.os, hb.tape, hb.output, hb.size, fun c hc => hb.block c (h.lt c hc)⟩

theorem Lx.set (hM : Mch M) (h : Lx W M pb cb l w) {b : Nat} (hb : b ∈ l) (hp : b ≠ pb) (j : Nat) (v : Value) : Lx W M pb cb l (w.setCell ⟨b, j, none⟩ v) :=
  h.upd hM hb hp (fun c hc => heap_set w b j v c hc) (size_set w b j v) ⟨rfl, rfl, rfl⟩

theorem Lx.to (h : Lx W M pb cb l w) (hw : M' (Own W.heap.size l) w) : Lx W M' pb cb l w := ⟨h.bl, h.pc, hw, h.inl, h.ge⟩
end

/-- Eight truths. -/
def arrB (on : Nat → Bool) : Array Value := #[.bool (on 0), .bool (on 1), .bool (on 2), .bool (on 3), .bool (on 4), .bool (on 5), .bool (on 6), .bool (on 7)]
theorem arrB_get {on : Nat → Bool} {j : Nat} (hj : j < 8) : (arrB on)[j]? = some (.bool (on j)) := by
  match j, hj with
  | 0, _ => rfl | 1, _ => rfl | 2, _ => rfl | 3, _ => rfl | 4, _ => rfl | 5, _ => rfl | 6, _ => rfl | 7, _ => rfl
theorem arrB_set {w : World} {b k : Nat} {on : Nat → Bool} {t : TypeId} (hk : k < 8) (h : w.heap[b]? = some (.cells (arrB on) t)) (v : Bool) : (w.setCell ⟨b, k, none⟩ (.bool v)).heap[b]? = some (.cells (arrB (updB on k v)) t) := by
  have hlt : b < w.heap.size := by
    by_cases hlt : b < w.heap.size
    · exact hlt
    · rw [Array.getElem?_eq_none (by omega)] at h; cases h
  rw [Array.getElem?_eq_getElem hlt] at h
  simp only [Option.some.injEq] at h
  simp only [World.setCell, Array.getElem?_modify, if_true, Array.getElem?_eq_getElem hlt, h, Option.map_some, Option.some.injEq, Option.isSome_none, Bool.false_eq_true, if_false]
  match k, hk with
  | 0, _ => simp [arrB, updB]
  | 1, _ => simp [arrB, updB]
  | 2, _ => simp [arrB, updB]
  | 3, _ => simp [arrB, updB]
  | 4, _ => simp [arrB, updB]
  | 5, _ => simp [arrB, updB]
  | 6, _ => simp [arrB, updB]
  | 7, _ => simp [arrB, updB]

/-- Whatever the log has: the table, and what a page is mapped to. -/
theorem TableO_W {A : Nat → Prop} {p : Pl} {on : Nat → Bool} {w : World} (hA : ∀ c, A c → c < w.heap.size) (hw : Wo A p on w) :
    Calls Tryz.prog 26 #[.pointer (some ⟨p.cb, 0, none⟩), .int .i64 1] w fun e w' => e = .returned (.pointer (some ⟨p.tb, 0, none⟩)) ∧ Wo A p on w' ∧ Kp A w w' := by
  rcases hw with ⟨h, h0⟩ | h
  · exact (Table_W .on0 hA h).mono fun e w' ⟨h1, h2, h3⟩ => ⟨h1, .inl ⟨h2, h0⟩, h3⟩
  · exact (Table_W (.on1 on) hA h).mono fun e w' ⟨h1, h2, h3⟩ => ⟨h1, .inr h2, h3⟩
theorem GetO_W {A : Nat → Prop} {p : Pl} {on : Nat → Bool} {w : World} {k : Nat} (hk : k < 8) (hA : ∀ c, A c → c < w.heap.size) (hw : Wo A p on w) :
    Calls Tryz.prog 55 #[.pointer (some ⟨p.tb, 0, none⟩), .int .u64 (k : Int)] w fun e w' => (∃ x y z u : Int, e = .returned (.tuple #[.agg #[.int .u64 x, .int .i64 y, .bool true, .bool (on k), .bool true, .int .i64 z, .int .i64 u], .bool true])) ∧ Wo A p on w' ∧ Kp A w w' := by
  rcases hw with ⟨h, h0⟩ | h
  · exact (Get_W hk (.inl ⟨rfl, rfl, h0 k hk⟩) hA h).mono fun e w' ⟨h1, h2, h3⟩ => ⟨h1, .inl ⟨h2, h0⟩, h3⟩
  · exact (Get_W hk (.inr (.inl ⟨rfl, on, rfl⟩)) hA h).mono fun e w' ⟨h1, h2, h3⟩ => ⟨h1, .inr h2, h3⟩

theorem UnlogO_W {A : Nat → Prop} {p : Pl} {on : Nat → Bool} {w : World} (hA : ∀ c, A c → c < w.heap.size) (hw : Wo A p on w) :
    Calls Tryz.prog 56 #[.pointer (some ⟨p.cb, 0, none⟩), .int .i64 1] w fun e w' => e = .returned (.int .i64 0) ∧ Wl A p false none (fun _ => true) w' ∧ Kp A w w' := by
  rcases hw with ⟨h, h0⟩ | h
  · exact Unlog_W .on0 hA h
  · exact Unlog_W (.on1 on) hA h

theorem told_calls (w : World) : Calls Tryz.prog 57 #[] w fun e w' => e = .returned (.bool true) ∧ Below w.heap.size w w' := rtcalls w
end Go.Proofs.YtcdjgnpjapgoaaaGreat
