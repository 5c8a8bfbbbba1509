/- Pages.List: the keys of a map, rising, whatever the order (at most twelve). -/
import Derived.Test.YtcdjgnpjapgoaaaGreatSO1
import Derived.Test.YtcdjgnpjapgoaaaGreatLS1
set_option linter.unusedVariables false
set_option linter.unusedSimpArgs false
set_option linter.unusedSectionVars false
namespace Go.Proofs.YtcdjgnpjapgoaaaGreat
theorem nodup_of_map {α β : Type} {f : α → β} : ∀ {l : List α}, (l.map f).Nodup → l.Nodup
  | [], _ => List.nodup_nil
  | a :: l, h => by
    rw [List.map_cons, List.nodup_cons] at h
    rw [List.nodup_cons]
    exact ⟨fun hm => h.1 (List.mem_map.2 ⟨a, hm, rfl⟩), nodup_of_map h.2⟩

theorem perm_of_nodup {α : Type} : ∀ {l r : List α}, l.Nodup → r.Nodup → (∀ z, z ∈ l ↔ z ∈ r) → l.Perm r
  | [], r, _, _, h => by
    cases r with
    | nil => exact List.Perm.refl _
    | cons a r => exact absurd ((h a).2 (by simp)) (by simp)
  | a :: l, r, hl, hr, h => by
    rw [List.nodup_cons] at hl
    obtain ⟨s, t, rfl⟩ := List.append_of_mem ((h a).1 (by simp))
    have hp : (s ++ a :: t).Perm (a :: (s ++ t)) := List.perm_middle
    have hr' : (a :: (s ++ t)).Nodup := hp.nodup_iff.1 hr
    rw [List.nodup_cons] at hr'
    refine (List.Perm.cons a (perm_of_nodup hl.2 hr'.2 fun z => ?_)).trans hp.symm
    constructor
    · intro hz
      have hm := (h z).1 (by simp [hz])
      have hm := hp.mem_iff.1 hm
      rcases List.mem_cons.1 hm with rfl | hm
      · exact absurd hz hl.1
      · exact hm
    · intro hz
      have hm := (h z).2 (hp.mem_iff.2 (by simp [hz]))
      rcases List.mem_cons.1 hm with rfl | hm
      · exact absurd hz hr'.1
      · exact hm

theorem sub_length {α : Type} : ∀ {l r : List α}, l.Nodup → (∀ z ∈ l, z ∈ r) → l.length ≤ r.length
  | [], _, _, _ => Nat.zero_le _
  | a :: l, r, hl, h => by
    rw [List.nodup_cons] at hl
    obtain ⟨s, t, rfl⟩ := List.append_of_mem (h a (by simp))
    have := sub_length (r := s ++ t) hl.2 fun z hz => by
      have := h z (by simp [hz])
      rcases List.mem_append.1 this with h1 | h1
      · exact List.mem_append_left _ h1
      · rcases List.mem_cons.1 h1 with rfl | h1
        · exact absurd hz hl.1
        · exact List.mem_append_right _ h1
    simp at this ⊢
    omega
end Go.Proofs.YtcdjgnpjapgoaaaGreat

namespace Go.Proofs.YtcdjgnpjapgoaaaGreat
open Go Go.RowKit Go.Lib Go.Proofs.YtcdjgnpjapgoaaaGreat.Dm Go.Sort

theorem Tryz.info29 : (Tryz.prog.info? 29).map (fun i => (i.zero, i.size, i.bytes)) = some (some (.int .u64 0), 1, 8) := by kernel_rfl

/-- What has been met so far, in its order. -/
structure Met (es : Array MapEntry) (seen : Array Nat) (vs : List MapEntry) : Prop where
  born : seen.toList = vs.map (·.born)
  mem : ∀ x ∈ vs, x ∈ es.toList
  nodup : vs.Nodup

theorem Met.push {es : Array MapEntry} {seen : Array Nat} {vs : List MapEntry} (m : Met es seen vs) {e : MapEntry} (he : e ∈ es.toList) (hs : ¬ e.born ∈ seen) : Met es (seen.push e.born) (vs ++ [e]) := by
  refine ⟨by simp [m.born], fun x hx => ?_, ?_⟩
  · rcases List.mem_append.1 hx with h | h
    · exact m.mem x h
    · rw [List.mem_singleton.1 h]; exact he
  · refine List.nodup_append.2 ⟨m.nodup, by simp, fun a ha b hb => ?_⟩
    rw [List.mem_singleton.1 hb]
    rintro rfl
    apply hs
    have : a.born ∈ seen.toList := by rw [m.born]; exact List.mem_map.2 ⟨a, ha, rfl⟩
    simpa using this


/-- All entries have been met: their keys, in another order. -/
theorem Met.perm {es : Array MapEntry} {seen : Array Nat} {vs : List MapEntry} (m : Met es seen vs) (hn : (es.toList.map (·.born)).Nodup) (hall : ∀ z ∈ es.toList, z.born ∈ seen) : vs.Perm es.toList := by
  have hin : ∀ z ∈ es.toList, z ∈ vs := fun z hz => by
    have := hall z hz
    have : z.born ∈ seen.toList := by simpa using this
    rw [m.born] at this
    obtain ⟨u, hu, hub⟩ := List.mem_map.1 this
    have : u = z := born_inj hn (m.mem u hu) hz hub
    exact this ▸ hu
  have hnd : es.toList.Nodup := nodup_of_map hn
  exact perm_of_nodup m.nodup hnd fun z => ⟨m.mem z, hin z⟩

theorem Met.len {es : Array MapEntry} {seen : Array Nat} {vs : List MapEntry} (m : Met es seen vs) : vs.length ≤ es.size := by
  have := sub_length m.nodup m.mem
  simpa using this
end Go.Proofs.YtcdjgnpjapgoaaaGreat

namespace Go.Proofs.YtcdjgnpjapgoaaaGreat
open Go Go.RowKit Go.Lib Go.Proofs.YtcdjgnpjapgoaaaGreat.Dm Go.Sort

noncomputable def leI (x y : Int) : Bool := !ltInt y x
theorem leI_iff {x y : Int} : leI x y = true ↔ x ≤ y := by simp [leI, ltInt]

theorem eq_of_sorted : ∀ {l r : List Int}, l.Perm r → l.Pairwise (fun a b => a ≤ b) → r.Pairwise (fun a b => a ≤ b) → l = r
  | [], r, h, _, _ => by rw [List.nil_perm.1 h]
  | a :: l, [], h, _, _ => absurd h.symm (by intro hh; have := List.nil_perm.1 hh; cases this)
  | a :: l, b :: r, h, hl, hr => by
    rw [List.pairwise_cons] at hl hr
    have hab : a = b := by
      have h1 := h.mem_iff.1 (List.mem_cons_self (a := a) (l := l))
      have h2 := h.mem_iff.2 (List.mem_cons_self (a := b) (l := r))
      rcases List.mem_cons.1 h1 with h1 | h1
      · exact h1
      · rcases List.mem_cons.1 h2 with h2 | h2
        · exact h2.symm
        · have := hl.1 b h2
          have := hr.1 a h1
          omega
    subst hab
    rw [eq_of_sorted (List.Perm.cons_inv h) hl.2 hr.2]

theorem sorted_ms (l : List Int) : (l.mergeSort leI).Pairwise (fun a b => a ≤ b) := by
  have := List.pairwise_mergeSort (le := leI) (fun a b c h1 h2 => leI_iff.2 (Int.le_trans (leI_iff.1 h1) (leI_iff.1 h2))) (fun a b => by simp [leI, ltInt]; omega) l
  exact this.imp fun h => leI_iff.1 h

theorem ms_perm {l r : List Int} (h : l.Perm r) : l.mergeSort leI = r.mergeSort leI :=
  eq_of_sorted ((List.mergeSort_perm l leI).trans (h.trans (List.mergeSort_perm r leI).symm)) (sorted_ms l) (sorted_ms r)

noncomputable def kz (e : MapEntry) : Int := RowKit.intOf e.key

set_option maxRecDepth 100000 in
set_option maxHeartbeats 2000000 in
theorem plist_calls {lb o mb clock : Nat} {es : Array MapEntry} (w : World) (hc : w.cell? ⟨lb, o, none⟩ = some (.map (some mb))) (hb : w.heap[mb]? = some (.map es clock))
    (hold : ∀ x ∈ es.toList, x.born < clock) (hn : (es.toList.map (·.born)).Nodup) (hkeys : ∀ x ∈ es.toList, x.key = .int .u64 (kz x)) (hpos : 0 < es.size) (h12 : es.size ≤ 12) :
    Calls Tryz.prog 64 #[.pointer (some ⟨lb, o, none⟩)] w fun e w' => ∃ g cap, e = .returned (.slice (some ⟨g, 0, none⟩) es.size cap) ∧ Below w.heap.size w w' ∧
      w'.ownsRow w.heap.size 29 1 (.slice (some ⟨g, 0, none⟩) es.size cap) es.size (((es.toList.map kz).mergeSort leI).map (Value.int .u64)) := by
  have hbl : mb < w.heap.size := (Array.getElem?_eq_some_iff.1 hb).1
  have hcl : lb < w.heap.size := World.block_lt_of_cell? w _ hc
  obtain ⟨i0, hi, hz0, hz1, hz2⟩ := info_parts Tryz.info29
  have HP : Aside (0 < es.size ∧ es.size ≤ 12) := ⟨hpos, h12⟩
  have HKEYS : Aside (∀ x ∈ es.toList, x.key = .int .u64 (kz x)) := hkeys
  clear hkeys hpos h12
  go_enter Tryz.func64, Tryz.ntmps64
  go_wp2_with (first
    | (at_range; refine wpList_range_map rfl _ 144 rfl 29 53 Tryz.underlying144 mb clock es rfl hb ?_)
    | go_in)
  go_frame
  have hiter0 : (w.alloc (.mapIter (some mb) clock #[] clock)).heap[w.heap.size]? = some (.mapIter (some mb) clock #[] clock) := heap_alloc_new w _
  generalize hr0 : w.heap.size = r at hiter0 ⊢
  have hb2 : Below r w (w.alloc (.mapIter (some mb) clock #[] clock)) := (Below.refl _ _).alloc (by omega) _
  generalize w.alloc (.mapIter (some mb) clock #[] clock) = w2 at hiter0 hb2 ⊢
  have HBM : Aside (w.heap[mb]? = some (.map es clock)) := hb
  have HN : Aside ((es.toList.map (·.born)).Nodup) := hn
  have HO : Aside (∀ x ∈ es.toList, x.born < clock) := hold
  have HR : Aside (w.heap.size = r) := hr0
  rw [hr0] at hbl
  clear hb hc hn hold hr0
  go_loopw [3] (fun v wr => ∃ (seen : Array Nat) (vs : List MapEntry), wr.heap[r]? = some (.mapIter (some mb) clock seen clock) ∧ Below r w wr ∧ Met es seen vs ∧ wr.ownsRow r 29 1 v vs.length (vs.map (·.key)) ∧ some r ≠ v.ownBlock)
    (fun _ wr => (leftOf es (seenAt wr r)).size)
  case atStart => exact ⟨#[], [], hiter0, hb2, ⟨rfl, fun _ h => (by cases h), List.nodup_nil⟩, World.ownsRow_nil _ _ _ _, by simp [Value.ownBlock]⟩
  case round =>
    obtain ⟨seen, vs, hit, hbr, hmet, hown, hrv⟩ := hrel
    have hmb : wr.heap[mb]? = some (.map es clock) := (hbr.block mb hbl).trans HBM.out
    go_wp2_with (first
      | (at_next; refine wpList_next_map rfl _ rfl mb r clock seen es rfl hit hmb HO.out HN.out ?_ ?_)
      | go_in)
    · intro h0
      have hall : ∀ x ∈ es.toList, x.born ∈ seen := fun x hx => by
        have := all_seen es seen (by rw [h0]; rfl) x hx
        simpa using this
      have hperm := hmet.perm HN.out hall
      have hl : vs.length = es.size := by simpa using hperm.length_eq
      have hkv : vs.map (·.key) = (vs.map kz).map (Value.int .u64) := by
        rw [List.map_map]
        exact List.map_congr_left fun x hx => HKEYS.out x (hmet.mem x hx)
      rw [hkv] at hown
      have hms : (vs.map kz).mergeSort leI = (es.toList.map kz).mergeSort leI := ms_perm (hperm.map kz)
      rcases hown.2 with ⟨_, hh⟩ | ⟨g, cap, cur, rfl, hbase, hgb, hn1, hcm, hsz, htk⟩
      · have := HP.out.1; omega
      have S1 := sortU_calls (base := r) (g := g) (cap := cap) (e := 29) (L := vs.map kz) wr (by simpa using hown) (by rw [List.length_map, hl]; exact HP.out.2) (by rw [List.length_map, hl]; exact HP.out.1)
      rw [show (fun x y => !ltInt y x) = leI from rfl, hms, List.length_map, hl] at S1
      rw [hl]
      clear hkv hms hown htk hsz hcm hn1 hgb hall hmet
      go_wp2_with (first
        | (go_at_call 139; refine S1.mono ?_; rintro e w4 ⟨rfl, hg4, hown4⟩)
        | go_in)
      go_ret
      rw [HR.out]
      exact ⟨g, cap, rfl, hbr.grown hg4 (by rw [← HR.out]; exact hbr.size) (fun j hj => by cases hj; exact hbase), hown4⟩
    · intro en he w3 hit3 hg3 hs3 hen
      have he := Array.mem_toList_iff.2 he
      obtain ⟨hem, hes⟩ := mem_left he
      obtain ⟨k, hk⟩ : ∃ k, en.key = .int .u64 k := ⟨_, HKEYS.out en hem⟩
      have hes' : ¬ en.born ∈ seen := by simpa using hes
      have HLT : Aside ((leftOf es (seen.push en.born)).size < (leftOf es seen).size) := left_shrinks es seen en he
      have HS0 : Aside (seenAt wr r = seen) := by show _ = _; simp [seenAt, hit]
      have HMET : Aside (Met es (seen.push en.born) (vs ++ [en])) := hmet.push hem hes'
      have hle : vs.length < 12 := by
        have hm := (hmet.push hem hes').len
        have := HP.out.2
        simp at hm
        omega
      have HLE : Aside (vs.length < 12) := hle
      have HKEY : Aside (en.key = .int .u64 k) := hk
      rw [hk] at hen
      rw [hk]
      have HB3 : Aside (Below r w w3) := hbr.grown hg3 (by rw [← HR.out]; exact hbr.size) (fun j hj => by cases hj; exact Nat.le_refl _)
      have HSZ3 : Aside (r ≤ w3.heap.size) := by show r ≤ _; rw [← HR.out]; exact HB3.out.size
      have HIT3 : Aside (w3.heap[r]? = some (.mapIter (some mb) clock (seen.push en.born) clock)) := hit3
      have HRL : Aside (r < w3.heap.size) := (Array.getElem?_eq_some_iff.1 hit3).1
      have hown3 : w3.ownsRow r 29 1 u3 vs.length (vs.map (·.key)) := hown.kept hg3 (Or.inr (Ne.symm hrv))
      have HOWN : Aside (some r ≠ u3.ownBlock) := hrv
      clear hs3 hit3 hg3 hit hbr hmb he hk hem hes hes' hmet hown hle hrv
      go_wp2_with (first
        | (at_builtin; refine wpList_append_own_at _ rfl _ _ 32 rfl r 29 i0 (.int .u64 0) 1 8 Tryz.underlying32 hi hz0 hz1 hz2 rfl (by decide) u3 vs.length (vs.map (·.key)) rfl (hown3.alloc _) ⟨w3.heap.size, 0, none⟩ 1 1 [.int .u64 k] rfl rfl (cell_one_new _ _ _) (by simp [Value.oneCell']) (by have := HLE.out; unfold maxLen; omega) (by have := HLE.out; omega) (Nat.le_trans HSZ3.out (by simp)) ?_; intro v' w6 hown' hg6 hnil6 hat6)
        | go_in)
      have hit6 : w6.heap[r]? = some (.mapIter (some mb) clock (seen.push en.born) clock) := by
        rw [hg6.block r (by have := HRL.out; simp; omega) HOWN.out, heap_alloc_old w3 _ HRL.out]; exact HIT3.out
      have hrv6 : some r ≠ v'.ownBlock := by
        rcases hat6 with h | h
        · rw [h]; exact HOWN.out
        · rw [h]; have := HRL.out; simp; omega
      have hB6 : Below r w w6 := (HB3.out.alloc HSZ3.out _).grown hg6 (by have := HSZ3.out; simp; omega) (fun j hj => (hown3.lt j hj).1)
      refine ⟨⟨seen.push en.born, vs ++ [en], hit6, hB6, HMET.out, ?_, hrv6⟩, ?_⟩
      · rw [List.length_append, List.map_append, List.map_cons, List.map_nil, HKEY.out]; exact hown'
      · have : seenAt w6 r = seen.push en.born := by simp [seenAt, hit6]
        rw [this, HS0.out]; exact HLT.out
end Go.Proofs.YtcdjgnpjapgoaaaGreat
