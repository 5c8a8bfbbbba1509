/- image.Decode: the reader, the mark. -/
import Derived.Test.YtdlnipimljpmgaaIW7
import Derived.Test.YtdlnipimljpmgaaIW10
import Derived.ScopeJumps
import Derived.WalkMore
set_option linter.unusedVariables false
set_option linter.unusedSimpArgs false
set_option linter.unusedSectionVars false
set_option linter.unnecessarySimpa false
namespace Go.Proofs.Ytdlnipimljpmgaa
open Go Go.RowKit Go.Im Go.Lib

theorem zero26 (w : World) : (zeroValue 26).run Try.prog w = .ok (.agg #[.bool false, .int .u64 0, .int .i64 0, .slice none 0 0]) w := by kernel_rfl
theorem zero81 (w : World) : (zeroValue 81).run Try.prog w = .ok (.agg #[.slice none 0 0, .bool false]) w := by kernel_rfl

def img0 : Obj := .cells #[.bool false, .int .u64 0, .int .i64 0, .slice none 0 0] 26

/-- What Decode has: a reader at g, an image at h, its result's place. -/
structure Dec (w wc : World) (g h : Nat) (d : Rd) (x0 x1 x2 x3 : Value) : Prop where
  rd : RdAt g wc g d
  lo : w.heap.size < g
  gh : g < h
  hh : h < wc.heap.size
  res : wc.heap[w.heap.size]? = some img0
  img : wc.heap[h]? = some (.cells #[x0, x1, x2, x3] 26)
  bl : Below w.heap.size w wc

theorem Dec.call {w wc w2 : World} {g h : Nat} {d d2 : Rd} {x0 x1 x2 x3 : Value} (D : Dec w wc g h d x0 x1 x2 x3) (hr : RdAt g w2 g d2) (hg : wc.grownBy w2 (some g)) : Dec w w2 g h d2 x0 x1 x2 x3 := by
  have h1 := D.lo
  have h2 := D.gh
  have h3 := D.hh
  refine ⟨hr, h1, h2, Nat.lt_of_lt_of_le h3 hg.size, ?_, ?_, ?_⟩
  · rw [hg.block _ (by omega) (by simp; omega)]; exact D.res
  · rw [hg.block _ h3 (by simp; omega)]; exact D.img
  · exact D.bl.grown hg (by omega) (fun k hk => by cases hk; omega)

theorem Dec.set {w wc : World} {g h j : Nat} {d : Rd} {x0 x1 x2 x3 y0 y1 y2 y3 v : Value} (D : Dec w wc g h d x0 x1 x2 x3) (he : (#[x0, x1, x2, x3] : Array Value).setIfInBounds j v = #[y0, y1, y2, y3]) : Dec w (wc.setCell ⟨h, j, none⟩ v) g h d y0 y1 y2 y3 := by
  have h1 := D.lo
  have h2 := D.gh
  have h3 := D.hh
  refine ⟨D.rd.other (by omega) (by omega) v, h1, h2, by simpa using h3, ?_, ?_, ?_⟩
  · rw [heap_setCell_other _ _ _ _ (by show w.heap.size ≠ h; omega)]; exact D.res
  · rw [heap_setCell_same wc h j _ 26 v D.img, he]
  · exact D.bl.setCell (by show _ ≤ h; omega) _

theorem Dec.cell {w wc : World} {g h : Nat} {d : Rd} {x0 x1 x2 x3 : Value} (D : Dec w wc g h d x0 x1 x2 x3) : (∀ j, wc.cell? ⟨h, j, none⟩ = #[x0, x1, x2, x3][j]?) ∧ ∀ j, wc.frozen? ⟨h, j, none⟩ = false :=
  ⟨fun j => by simp [World.cell?, D.img], fun j => frozen_of_row wc h j _ 26 D.img⟩

theorem Dec.out {w wc : World} {g h : Nat} {d : Rd} {x0 x1 x2 x3 : Value} (D : Dec w wc g h d x0 x1 x2 x3) : (∀ j, wc.cell? ⟨w.heap.size, j, none⟩ = #[.bool false, .int .u64 0, .int .i64 0, .slice none 0 0][j]?) ∧ ∀ j, wc.frozen? ⟨w.heap.size, j, none⟩ = false :=
  ⟨fun j => by simp [World.cell?, D.res, img0], fun j => frozen_of_row wc w.heap.size j _ 26 D.res⟩

theorem Bs_news {B : Nat} {w w' : World} {ad : Addr} {n c : Nat} {l : List Int} (h : Bs B w (.slice (some ad) n c) l) (hb : Below B w w') : ∀ j u, (l.map (Value.int .u8))[j]? = some u → w'.cell? (ad.add j) = some u := by
  intro j u hj
  obtain ⟨a, cap, he, h3⟩ := h.below hb
  cases he
  rcases h3 with rfl | ⟨b, off, he, _, hc⟩
  · simp at hj
  · cases he
    rw [Addr.add_lit]
    exact hc j u hj

/-- A reader that is made of bytes that the call owns. -/
theorem rd_new {w w9 : World} {va : Option Addr} {n vc base : Nat} {L : List Int} (hn : L.length = n) (h : w9.ownsRow base 5 1 (.slice va n vc) n (L.map (Value.int .u8))) :
    RdAt w9.heap.size (w9.alloc (.cells #[.slice va n vc, .bool false] 81)) w9.heap.size ⟨L, false⟩ := by
  subst hn
  have hb : (w9.alloc (.cells #[.slice va L.length vc, .bool false] 81)).heap[w9.heap.size]? = some (.cells #[.slice va L.length vc, .bool false] 81) := heap_n0
  have hc : L.length ≤ vc := by
    rcases h.2 with ⟨he, h0⟩ | ⟨g, cap, cur, he, _, _, hcap, _⟩
    · omega
    · cases he; exact hcap
  refine ⟨⟨by simp, by simp⟩, va, vc, by unfold World.cell?; rw [hb]; rfl, by unfold World.cell?; rw [hb]; rfl, frozen_of_row _ _ _ _ 81 hb, frozen_of_row _ _ _ _ 81 hb, hc, ?_⟩
  obtain ⟨a, cap, he, h3⟩ := Bs.owned h
  cases he
  rcases h3 with h3 | ⟨b, off, rfl, hB, hc2⟩
  · exact .inl h3
  · refine .inr ⟨b, off, rfl, hB, by omega, fun j u hj => ?_⟩
    rw [alloc_cells w9 _ _ _ hB]
    exact hc2 j u hj

def JW (w : World) (a' : Act) (w' : World) : Prop := ∃ (u0 u1 u3 u4 u5 u6 u7 u8 u9 u10 u11 u12 u13 u14 u15 u16 u17 u18 u19 u20 u21 u22 u23 u24 u25 u26 u27 u28 u29 u30 u31 u32 u33 u34 u35 u36 u37 u38 u39 u40 u41 u42 u43 u44 u45 u46 u47 u48 u49 u50 u51 u52 u53 u54 u55 u56 u57 u58 u59 u60 u61 u62 u63 u64 u65 u66 u67 u68 u69 u70 : Value), a' = { tmps := #[u0, u1, .pointer (some ⟨w.heap.size, 0, none⟩), u3, u4, u5, u6, u7, u8, u9, u10, u11, u12, u13, u14, u15, u16, u17, u18, u19, u20, u21, u22, u23, u24, u25, u26, u27, u28, u29, u30, u31, u32, u33, u34, u35, u36, u37, u38, u39, u40, u41, u42, u43, u44, u45, u46, u47, u48, u49, u50, u51, u52, u53, u54, u55, u56, u57, u58, u59, u60, u61, u62, u63, u64, u65, u66, u67, u68, u69, u70], defers := [] } ∧ ∃ g h d x0 x1 x2 x3, Dec w w' g h d x0 x1 x2 x3
theorem JW.mk {w w' : World} {u0 u1 u3 u4 u5 u6 u7 u8 u9 u10 u11 u12 u13 u14 u15 u16 u17 u18 u19 u20 u21 u22 u23 u24 u25 u26 u27 u28 u29 u30 u31 u32 u33 u34 u35 u36 u37 u38 u39 u40 u41 u42 u43 u44 u45 u46 u47 u48 u49 u50 u51 u52 u53 u54 u55 u56 u57 u58 u59 u60 u61 u62 u63 u64 u65 u66 u67 u68 u69 u70 : Value} {g h : Nat} {d : Rd} {x0 x1 x2 x3 : Value} (D : Dec w w' g h d x0 x1 x2 x3) : JW w { tmps := #[u0, u1, .pointer (some ⟨w.heap.size, 0, none⟩), u3, u4, u5, u6, u7, u8, u9, u10, u11, u12, u13, u14, u15, u16, u17, u18, u19, u20, u21, u22, u23, u24, u25, u26, u27, u28, u29, u30, u31, u32, u33, u34, u35, u36, u37, u38, u39, u40, u41, u42, u43, u44, u45, u46, u47, u48, u49, u50, u51, u52, u53, u54, u55, u56, u57, u58, u59, u60, u61, u62, u63, u64, u65, u66, u67, u68, u69, u70], defers := [] } w' :=
  ⟨u0, u1, u3, u4, u5, u6, u7, u8, u9, u10, u11, u12, u13, u14, u15, u16, u17, u18, u19, u20, u21, u22, u23, u24, u25, u26, u27, u28, u29, u30, u31, u32, u33, u34, u35, u36, u37, u38, u39, u40, u41, u42, u43, u44, u45, u46, u47, u48, u49, u50, u51, u52, u53, u54, u55, u56, u57, u58, u59, u60, u61, u62, u63, u64, u65, u66, u67, u68, u69, u70, rfl, g, h, d, x0, x1, x2, x3, D⟩

theorem mark_list : (strOfNums [68, 77, 73, 49]).toList = [68, 77, 73, 49] := by
  rw [ByteArray.toList_eq, strOfNums_data]
  rfl
theorem mark_not {l : List Int} (h : Byte l) (hne : l ≠ [68, 77, 73, 49]) : ((strOfNums l).toList == [68, 77, 73, 49]) = false := by
  rw [beq_eq_false_iff_ne, ← mark_list]
  exact fun e => hne (strOfNums_inj h (by intro x hx; simp at hx; omega) e)

set_option maxRecDepth 100000 in
set_option maxHeartbeats 4000000 in
theorem Decode_wrong (x : Option Addr) (n c B : Nat) (L : List Int) (w : World) (hn : L.length = n) (hbig : n ≤ 1000000) (hBw : B ≤ w.heap.size) (hby : Byte L) (hx : Bs B w (.slice x n c) L) (hm : (take ⟨L, false⟩ 4).1 ≠ [68, 77, 73, 49]) :
    Calls Try.prog 18 #[.slice x n c] w fun e w' => e = .returned (.tuple #[.agg #[.bool false, .int .u64 0, .int .i64 0, .slice none 0 0], .int .i64 4]) ∧ Below w.heap.size w w' := by
  have HX : Aside (Bs B w (.slice x n c) L) := hx
  have HBY : Aside (Byte L) := hby
  have HM : Aside ((take ⟨L, false⟩ 4).1 ≠ [68, 77, 73, 49]) := hm
  have HN : Aside (L.length = n) := hn
  have hz26 := zero26
  clear hx hby hm hn
  obtain ⟨i0, hi0, hz⟩ := Option.map_eq_some_iff.1 info5
  simp only [Prod.mk.injEq] at hz
  obtain ⟨hz0, hz1, hz2⟩ := hz
  go_enter Try.func18, Try.ntmps18
  go_wp2_with fail
  refine wp_scope_jumps 0 (JW w) (fun _ _ => 0) rfl ?_ ?_
  · go_upto_region 1 with fail
    go_cut [4] from 10 (fun p wc => ∃ g, p = .pointer (some ⟨g, 0, none⟩) ∧ RdAt g wc g ⟨L, false⟩ ∧ w.heap.size < g ∧ wc.heap[w.heap.size]? = some img0 ∧ Below w.heap.size w wc)
    case first =>
      rcases x with _ | ad
      · have hL : L = [] := by
          obtain ⟨a, cap, he, h3⟩ := HX.out
          cases he
          rcases h3 with h3 | ⟨b, off, he, _⟩
          · exact h3
          · cases he
        have hn0 : n = 0 := by rw [← HN.out, hL]; rfl
        subst hn0
        go_wp2_with fail
        go_meet
        have hown : (w.alloc img0).ownsRow 0 5 1 (.slice none 0 0) 0 ([].map (Value.int .u8)) := World.ownsRow_nil _ _ _ _
        have hrd := rd_new (w := w) rfl hown
        have e : (w.alloc img0).heap.size = w.heap.size + 1 := by simp
        rw [e] at hrd
        rw [hL]
        exact ⟨w.heap.size + 1, rfl, hrd, by omega, (Below.heap_alloc _ _ _ (by simp)).trans heap_n0, ((Below.refl _ _).alloc (Nat.le_refl _) _).alloc (by simp) _⟩
      · have HNW : Aside (∀ j u, (L.map (Value.int .u8))[j]? = some u → (w.alloc img0).cell? (ad.add j) = some u) := Bs_news HX.out ((Below.refl _ _).alloc hBw _)
        go_wp2_with (at_builtin; refine wpList_append_own_at _ rfl _ _ 32 rfl (w.heap.size + 1) 5 i0 _ 1 1 Try.underlying32 hi0 hz0 hz1 hz2 rfl (by decide) _ 0 [] rfl (World.ownsRow_nil _ _ _ _) ad n _ (L.map (Value.int .u8)) rfl (by rw [List.length_map, HN.out]; omega) HNW.out ints_one (by unfold maxLen; omega) (by omega) (by simp) ?_; intro v' w9 hown' hgrow hnil hloc; rw [Nat.zero_add, List.nil_append] at hown'; obtain ⟨va', vc', rfl⟩ := slice_form0 hown'; have HO : Aside (w9.ownsRow (w.heap.size + 1) 5 1 (.slice va' n vc') n (L.map (Value.int .u8))) := hown'; have HG : Aside ((w.alloc img0).grownBy w9 none) := hgrow; clear hown' hgrow hnil hloc)
        go_meet
        have h9 := HG.out.size
        simp at h9
        refine ⟨w9.heap.size, rfl, rd_new (w := w) HN.out HO.out, by omega, ?_, ?_⟩
        · rw [Below.heap_alloc _ _ _ (by omega), HG.out.block _ (by simp) (by simp)]; exact heap_n0
        · exact ((((Below.refl _ _).alloc (Nat.le_refl _) _).grown HG.out (by simp) (by simp)).alloc (by omega) _)
    case rest =>
      obtain ⟨g, rfl, hrd, hlo, hres, hbl⟩ := hcut
      have HD0 : Aside (Dec w (wc.alloc img0) g wc.heap.size ⟨L, false⟩ (.bool false) (.int .u64 0) (.int .i64 0) (.slice none 0 0)) :=
        ⟨hrd.grow (World.grownBy_alloc _ _ none), hlo, hrd.1.1, by simp, by rw [Below.heap_alloc _ _ _ (by have := hrd.1.1; omega)]; exact hres, heap_n0, hbl.alloc hbl.size _⟩
      clear hrd hlo hres hbl
      go_wp2_with fail
      refine (take_calls (B := g) g ⟨L, false⟩ 4 _ (by omega) (by rw [HN.out]; omega) HD0.out.rd).mono ?_
      rintro e w2 ⟨v, rfl, hbs, hrd, hg⟩
      obtain ⟨va, vc, rfl⟩ := Bs.form hbs (take_len _ 4)
      have hcv := conv_bytes hbs (take_len _ 4) (by omega) w2 (Below.refl _ _)
      have HD1 : Aside (Dec w w2 g wc.heap.size (take ⟨L, false⟩ 4).2 (.bool false) (.int .u64 0) (.int .i64 0) (.slice none 0 0)) := HD0.out.call hrd hg
      have hmk : ((strOfNums (take ⟨L, false⟩ 4).1).toList == [68, 77, 73, 49]) = false := mark_not (take_byte HBY.out).1 HM.out
      clear hbs hrd hg
      go_wp2_with fail
      go_step3
      exact ⟨rfl, JW.mk HD1.out⟩
  · rintro a' w' ⟨u0, u1, u3, u4, u5, u6, u7, u8, u9, u10, u11, u12, u13, u14, u15, u16, u17, u18, u19, u20, u21, u22, u23, u24, u25, u26, u27, u28, u29, u30, u31, u32, u33, u34, u35, u36, u37, u38, u39, u40, u41, u42, u43, u44, u45, u46, u47, u48, u49, u50, u51, u52, u53, u54, u55, u56, u57, u58, u59, u60, u61, u62, u63, u64, u65, u66, u67, u68, u69, u70, rfl, g, h, d, x0, x1, x2, x3, hD⟩
    have HD : Aside (Dec w w' g h d x0 x1 x2 x3) := hD
    have c0 := hD.out.1 0
    have c1 := hD.out.1 1
    have c2 := hD.out.1 2
    have c3 := hD.out.1 3
    have fz := hD.out.2
    clear hD
    go_wp2_with fail
    simp only [Exit.jump]
    refine bodyPost_ret (v := .tuple #[.agg #[.bool false, .int .u64 0, .int .i64 0, .slice none 0 0], .int .i64 4]) (by simp [results, Try.results18, go_sem, c0, c1, c2, c3]) rfl ⟨rfl, ?_⟩
    exact (((HD.out.bl.setCell (by simp) _).setCell (by simp) _).setCell (by simp) _).setCell (by simp) _
end Go.Proofs.Ytdlnipimljpmgaa
