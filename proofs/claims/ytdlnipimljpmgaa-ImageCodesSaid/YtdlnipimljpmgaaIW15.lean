/- image.Decode: the loop over the leaves. -/
import Derived.Test.YtdlnipimljpmgaaIW14
import Derived.Deep.RegionHeld3
import Derived.Deep.AppendLies
set_option linter.unusedVariables false
set_option linter.unusedSimpArgs false
set_option linter.unusedSectionVars false
set_option linter.unnecessarySimpa false
namespace Go.Proofs.Ytdlnipimljpmgaa
open Go Go.RowKit Go.Im Go.Lib

/-- What holds at the label 'next'. -/
def JN (x : Option Addr) (n c : Nat) (N : Int) (M : Nat) (d4 : Rd) (on : Bool) (root asid : Int) (w : World) (a' : Act) (w' : World) : Prop := ∃ (g h k : Nat) (i6 : Int) (u1 u8 u9 u10 u11 u12 u13 u14 u15 u16 u17 u18 u19 u20 u21 u22 u23 u24 u25 u26 u27 u28 u29 u30 u31 u32 u33 u34 u35 u36 u37 u38 u39 u40 u41 u42 u43 u44 u45 u46 u47 u48 u49 u50 u51 u52 u53 u54 u55 u56 u57 u58 u59 u60 u61 u62 u63 u64 u65 u66 u67 u68 u69 u70 : Value), i6 = k ∧ a' = { tmps := #[.slice x n c, u1, .pointer (some ⟨w.heap.size, 0, none⟩), .int .i64 0, .pointer (some ⟨g, 0, none⟩), .pointer (some ⟨h, 0, none⟩), .int .u64 i6, .int .u64 N, u8, u9, u10, u11, u12, u13, u14, u15, u16, u17, u18, u19, u20, u21, u22, u23, u24, u25, u26, u27, u28, u29, u30, u31, u32, u33, u34, u35, u36, u37, u38, u39, u40, u41, u42, u43, u44, u45, u46, u47, u48, u49, u50, u51, u52, u53, u54, u55, u56, u57, u58, u59, u60, u61, u62, u63, u64, u65, u66, u67, u68, u69, u70], defers := [] } ∧ ∃ va vc l fs d, Lp w w' g h d on root asid va vc k l fs ∧ Rdg M d4 k l d
theorem JN.mk {x : Option Addr} {n c : Nat} {N : Int} {M : Nat} {d4 : Rd} {on : Bool} {root asid : Int} {w w' : World} {g h k : Nat} {i6 : Int} {u1 u8 u9 u10 u11 u12 u13 u14 u15 u16 u17 u18 u19 u20 u21 u22 u23 u24 u25 u26 u27 u28 u29 u30 u31 u32 u33 u34 u35 u36 u37 u38 u39 u40 u41 u42 u43 u44 u45 u46 u47 u48 u49 u50 u51 u52 u53 u54 u55 u56 u57 u58 u59 u60 u61 u62 u63 u64 u65 u66 u67 u68 u69 u70 : Value} {va : Option Addr} {vc : Nat} {l : List Lf} {fs : List Value} {d : Rd} (hi : i6 = k) (H : Lp w w' g h d on root asid va vc k l fs) (R : Rdg M d4 k l d) : JN x n c N M d4 on root asid w { tmps := #[.slice x n c, u1, .pointer (some ⟨w.heap.size, 0, none⟩), .int .i64 0, .pointer (some ⟨g, 0, none⟩), .pointer (some ⟨h, 0, none⟩), .int .u64 i6, .int .u64 N, u8, u9, u10, u11, u12, u13, u14, u15, u16, u17, u18, u19, u20, u21, u22, u23, u24, u25, u26, u27, u28, u29, u30, u31, u32, u33, u34, u35, u36, u37, u38, u39, u40, u41, u42, u43, u44, u45, u46, u47, u48, u49, u50, u51, u52, u53, u54, u55, u56, u57, u58, u59, u60, u61, u62, u63, u64, u65, u66, u67, u68, u69, u70], defers := [] } w' :=
  ⟨g, h, k, i6, u1, u8, u9, u10, u11, u12, u13, u14, u15, u16, u17, u18, u19, u20, u21, u22, u23, u24, u25, u26, u27, u28, u29, u30, u31, u32, u33, u34, u35, u36, u37, u38, u39, u40, u41, u42, u43, u44, u45, u46, u47, u48, u49, u50, u51, u52, u53, u54, u55, u56, u57, u58, u59, u60, u61, u62, u63, u64, u65, u66, u67, u68, u69, u70, hi, rfl, va, vc, l, fs, d, H, R⟩

theorem info58 : (Try.prog.info? 58).map (fun i => (i.zero, i.size, i.bytes)) = some (some (.agg #[.int .u64 0, .int .i64 0, .bool false, .slice none 0 0]), 4, 48) := by kernel_rfl

/-- As 'wp_scope_jumps'; who falls onto the label goes on as one who jumps there. -/
theorem wp_scope_next {P : Program} {a : Act} {w : World} {Q : Exit → Act → World → Prop} {c rest : Code} (l : Nat) (J : Act → World → Prop) (μ : Act → World → Nat) (hf : findLabel c l = some (Code.skip.seq rest))
    (pass : ∀ a w, J a w → rest.wp P (Exit.jump l (fun a' w' => J a' w' ∧ μ a' w' < μ a w) Q) a w)
    (first : Aside (∀ a w, J a w → rest.wp P (Exit.jump l J Q) a w) → c.wp P (Exit.jump l J Q) a w) : (Code.scope c).wp P Q a w :=
  wp_scope_jumps l J μ hf (first (show Aside _ from fun a w h => Code.wp_mono (fun e a w h => by cases e <;> first | exact ⟨h.1, h.2.1⟩ | exact h) (pass a w h))) (fun a w h => wp_seq (wp_skip (pass a w h)))

theorem leaf_callsE {B : Nat} (r : Nat) {d d2 : Rd} {s : Lf} (h : leaf d = (s, d2)) (w : World) (hd : d.left.length ≤ 1000000000) (hby : Byte d.left) (hx : RdAt B w r d) :
    Calls Try.prog 38 #[.pointer (some ⟨r, 0, none⟩)] w fun e w' => ∃ ba bc, e = .returned (.agg #[.int .u64 s.page, .int .i64 s.kind, .bool s.write, .slice ba 4096 bc]) ∧ Bs w'.heap.size w' (.slice ba 4096 bc) s.bytes ∧ s.bytes.length = 4096 ∧
      RdAt B w' r d2 ∧ w.grownBy w' (some r) ∧ (∀ g, (Value.slice ba 4096 bc).ownBlock = some g → w.heap.size ≤ g) ∧ CapOk (.slice ba 4096 bc) :=
  (leaf_calls r d w hd hby hx).mono fun e w' ⟨bv, h1, h2, h3, h4, h5, h6⟩ => by
    rw [h] at h1 h2 h3
    have hl : s.bytes.length = 4096 := by
      have : s = (leaf d).1 := by rw [h]
      rw [this]
      unfold leaf
      simp only
      unfold fill
      simp
      omega
    obtain ⟨ba, bc, rfl⟩ := Bs.form h2 hl
    exact ⟨ba, bc, h1, h2, hl, h3, h4, h5, h6⟩

/-- What Decode tells, if the bytes behind the mark tell of m. -/
def DecPost (w : World) (L : List Int) (m : Img) (e : Ending) (w' : World) : Prop :=
  Below w.heap.size w w' ∧ (if chk m = 0 ∧ enc m = L then ∃ v fs, e = .returned (.tuple #[.agg #[.bool m.on, .int .u64 m.root, .int .i64 m.asid, v], .int .i64 0]) ∧ LeavesF w'.heap.size w' v m.leaves fs ∧ ∀ f ∈ fs, CapOk f
    else e = .returned (.tuple #[.agg #[.bool false, .int .u64 0, .int .i64 0, .slice none 0 0], .int .i64 4]))

theorem DecPost.bad {w : World} {L : List Int} {m : Img} {w' : World} (hb : Below w.heap.size w w') (h : ¬ (chk m = 0 ∧ enc m = L)) : DecPost w L m (.returned (.tuple #[.agg #[.bool false, .int .u64 0, .int .i64 0, .slice none 0 0], .int .i64 4])) w' :=
  ⟨hb, by rw [if_neg h]⟩
theorem DecPost.good {w : World} {L : List Int} {m : Img} {w' : World} {v : Value} {fs : List Value} (hb : Below w.heap.size w w') (h : chk m = 0 ∧ enc m = L) (hl : LeavesF w'.heap.size w' v m.leaves fs) (hc : ∀ f ∈ fs, CapOk f) : DecPost w L m (.returned (.tuple #[.agg #[.bool m.on, .int .u64 m.root, .int .i64 m.asid, v], .int .i64 0])) w' :=
  ⟨hb, by rw [if_pos h]; exact ⟨v, fs, rfl, hl, hc⟩⟩

theorem mark_pos {L : List Int} {n : Nat} {d0 : Rd} (h : take ⟨L, false⟩ 4 = ([68, 77, 73, 49], d0)) (hn : L.length = n) : 0 < n := by
  rcases Nat.eq_zero_or_pos n with h0 | h0
  · subst h0
    have : L = [] := List.eq_nil_of_length_eq_zero hn
    subst this
    simp [take] at h
  · exact h0

theorem enc_pos (m : Img) : 0 < (enc m).length := by
  unfold enc encHead
  simp

theorem mark_yes {l : List Int} (h : l = [68, 77, 73, 49]) : ((strOfNums l).toList == [68, 77, 73, 49]) = true := by
  rw [h, mark_list]; rfl

/-- One operation under a name. -/
abbrev load104 : Oper := { dst := some 47, op := Op.load 24 (Operand.tmp 46), type := 24, pos := "form.go:104", after := #[{ on := 0, ground := Ground.data }], guard := none }

set_option maxRecDepth 100000 in
set_option maxHeartbeats 4000000 in
theorem Decode_right (x : Option Addr) (n c B : Nat) (L : List Int) (w : World) (hn : L.length = n) (hbig : n ≤ 1000000) (hBw : B ≤ w.heap.size) (hby : Byte L) (hx : Bs B w (.slice x n c) L) {d0 d1 d2 d3 d4 : Rd} {a1 asid root N : Int} {M : Nat} (hm : take ⟨L, false⟩ 4 = ([68, 77, 73, 49], d0))
    (h1 : number d0 1 = (a1, d1)) (h2 : number d1 1 = (asid, d2)) (h3 : number d2 8 = (root, d3)) (h4 : number d3 4 = (N, d4)) (hM : M = min N.toNat 1024) (hb2 : 0 ≤ asid ∧ asid < 256) (hb3 : 0 ≤ root ∧ root < 18446744073709551616) (hb4 : 0 ≤ N ∧ N < 4294967296) :
    Calls Try.prog 18 #[.slice x n c] w fun e w' => DecPost w L ⟨a1 != 0, root, asid, (leavesOf M d4).1⟩ e w' := by
  have HX : Aside (Bs B w (.slice x n c) L) := hx
  have HBY : Aside (Byte L) := hby
  have HM : Aside (take ⟨L, false⟩ 4 = ([68, 77, 73, 49], d0)) := hm
  have HN : Aside (L.length = n) := hn
  have H1 : Aside (number d0 1 = (a1, d1)) := h1
  have H2 : Aside (number d1 1 = (asid, d2)) := h2
  have H3 : Aside (number d2 8 = (root, d3)) := h3
  have H4 : Aside (number d3 4 = (N, d4)) := h4
  have HMM : Aside (M = min N.toNat 1024) := hM
  have HLP : Aside (0 < n) := mark_pos hm hn
  have HB0 : Aside (d0.left.length ≤ 1000000 ∧ Byte d0.left) := by
    have e : d0 = (take ⟨L, false⟩ 4).2 := by rw [hm]
    rw [e]
    exact ⟨Nat.le_trans take_left (by show L.length ≤ _; omega), (take_byte hby).2⟩
  have HB1 : Aside (d1.left.length ≤ 1000000 ∧ Byte d1.left) := numberE h1 HB0.out.1 HB0.out.2
  have HB2 : Aside (d2.left.length ≤ 1000000 ∧ Byte d2.left) := numberE h2 HB1.out.1 HB1.out.2
  have HB3 : Aside (d3.left.length ≤ 1000000 ∧ Byte d3.left) := numberE h3 HB2.out.1 HB2.out.2
  have HB4 : Aside (d4.left.length ≤ 1000000 ∧ Byte d4.left) := numberE h4 HB3.out.1 HB3.out.2
  have hz26 := zero26
  clear hx hby hm hn h1 h2 h3 h4 hM
  obtain ⟨i0, hi0, hz⟩ := Option.map_eq_some_iff.1 info5
  simp only [Prod.mk.injEq] at hz
  obtain ⟨hz0, hz1, hz2⟩ := hz
  obtain ⟨j0, hj0, hj⟩ := Option.map_eq_some_iff.1 info58
  simp only [Prod.mk.injEq] at hj
  obtain ⟨hj1, hj2, hj3⟩ := hj
  go_enter Try.func18, Try.ntmps18
  go_wp2_with fail
  refine wp_scope_next 1 (JN x n c N M d4 (a1 != 0) root asid w) (fun a' _ => 1025 - (RowKit.intOf (a'.tmps.getD 6 undef)).toNat) rfl ?_ ?_
  · rintro a' wr ⟨g, h, k, i6, u1, u8, u9, u10, u11, u12, u13, u14, u15, u16, u17, u18, u19, u20, u21, u22, u23, u24, u25, u26, u27, u28, u29, u30, u31, u32, u33, u34, u35, u36, u37, u38, u39, u40, u41, u42, u43, u44, u45, u46, u47, u48, u49, u50, u51, u52, u53, u54, u55, u56, u57, u58, u59, u60, u61, u62, u63, u64, u65, u66, u67, u68, u69, u70, rfl, rfl, va, vc, l, fs, d, hL, hR⟩
    have HL : Aside (Lp w wr g h d (a1 != 0) root asid va vc k l fs) := hL
    have HR : Aside (Rdg M d4 k l d) := hR
    have hrs : wr.cell? ⟨g, 1, none⟩ = some (.bool d.short) := by obtain ⟨_, _, _, _, h, _⟩ := hL.D.rd; exact h
    have c3 : wr.cell? ⟨h, 3, none⟩ = some (.slice va k vc) := hL.D.cell.1 3
    have fz : ∀ j, wr.frozen? ⟨h, j, none⟩ = false := hL.D.cell.2
    clear hL hR
    by_cases hgo : k < M ∧ d.short = false
    · have hkN : (k : Int) < N := by have := HMM.out; omega
      have hk4 : (k : Int) < 1024 := by have := HMM.out; omega
      have hds : d.short = false := hgo.2
      clear hgo
      obtain ⟨⟨s, dn⟩, hlf⟩ : ∃ p, leaf d = p := ⟨_, rfl⟩
      have HLF : Aside (leaf d = (s, dn)) := hlf
      have HRN : Aside (Rdg M d4 (k + 1) (l ++ [s]) dn) := by
        have h1 : k < M := by have := HMM.out; omega
        have := HR.out.next h1 hds
        rw [hlf] at this
        exact this
      clear hlf
      go_upto_region 10 with fail
      rw [show ({ dst := some 47, op := Op.load 24 (Operand.tmp 46), type := 24, pos := "form.go:104", after := #[{ on := 0, ground := Ground.data }], guard := none } : Oper) = load104 from rfl]
      go_region_held3 (fun _ => True) (trivial) (first
        | (have hfirst := HL5; clear hfirst; refine step_append_lies _ rfl (.tmp 47) (.tmp 50) 24 rfl (h + 1) 58 j0 _ 4 48 Try.underlying24 hj0 hj1 hj2 hj3 rfl (by decide) (.slice va k vc) k _ rfl (HL5.out.1.alloc _) ⟨w5.heap.size, 0, none⟩ 1 1 (s.cells (.slice ba 4096 bc)) rfl rfl (cells_newL) (cells_oneL s rfl) (by decide) (by unfold maxLen; omega) (by omega) (by have := HL5.out.2.2.2; simp; omega) _ rfl ?_; intro g9 c9 w9 hown9 hgrow9 hat9 hlt9; have HP9 : Aside (Lp w (w9.setCell ⟨h, 3, none⟩ (.slice (some ⟨g9, 0, none⟩) (k + 1) c9)) g h dn (a1 != 0) root asid (some ⟨g9, 0, none⟩) c9 (k + 1) (l ++ [s]) (fs ++ [.slice ba 4096 bc])) := HL.out.next HI5.out.1 HI5.out.2.1 HI5.out.2.2.1 HI5.out.2.2.2.1 HI5.out.2.2.2.2.1 HI5.out.2.2.2.2.2 hown9 hgrow9 (hat9.elim (fun e => .inl e.symm) (fun e => .inr (by rw [e]; rfl))); obtain ⟨p9, q9⟩ := HL.out.nine HL5.out.2.2.2 hgrow9 HL5.out.2.1 HL5.out.2.2.1; clear hown9 hgrow9 hat9 hlt9)
        | (go_simp; go_at_call 38; refine (leaf_callsE (B := g) g HLF.out _ (by have := HR.out.left; omega) HR.out.byte HL.out.D.rd.drew).mono ?_; rintro e w5 ⟨ba, bc, rfl, hb5, hs5, hrd5, hg5, hf5, hc5⟩; have HL5 : Aside (w5.ownsRow (h + 1) 58 4 (.slice va k vc) k (flat l fs) ∧ w5.cell? ⟨h, 3, none⟩ = some (.slice va k vc) ∧ w5.frozen? ⟨h, 3, none⟩ = false ∧ h < w5.heap.size) := HL.out.five hrd5 (undrew hg5); have HI5 : Aside (RdAt g w5 g dn ∧ wr.grownBy w5 (some g) ∧ Bs w5.heap.size w5 (.slice ba 4096 bc) s.bytes ∧ s.bytes.length = 4096 ∧ (∀ b, (Value.slice ba 4096 bc).ownBlock = some b → wr.heap.size ≤ b) ∧ CapOk (.slice ba 4096 bc)) := ⟨hrd5, undrew hg5, hb5, hs5, hf5, hc5⟩; have p5 := HL5.out.2.1; have p6 := fun ob => Lib.cell?_alloc_some ob p5; clear hb5 hs5 hrd5 hg5 hf5 hc5))
      all_goals go_wp2_with fail
      all_goals go_step3
      all_goals exact ⟨rfl, JN.mk (k := k + 1) (by go_num) HP9.out HRN.out, by simp [RowKit.intOf]; omega⟩
    · have HSTOP : Aside ((leavesOf M d4).1 = l) := HR.out.stop (by
        have := HR.out.km
        by_cases hk : k < M
        · right
          cases hs : d.short with
          | true => rfl
          | false => exact absurd ⟨hk, hs⟩ hgo
        · left; omega)
      have hcond : ¬ ((k : Int) < N) ∨ (k : Int) < N ∧ d.short = true ∨ (k : Int) < N ∧ d.short = false ∧ ¬ ((k : Int) < 1024) := by
        by_cases h1 : (k : Int) < N
        · cases hs : d.short with
          | true => exact .inr (.inl ⟨h1, rfl⟩)
          | false =>
            refine .inr (.inr ⟨h1, rfl, fun h2 => hgo ⟨?_, hs⟩⟩)
            have := HMM.out
            omega
        · exact .inl h1
      have HLV := HL.out.leaves
      have HLV' : Aside (LeavesF wr.heap.size wr (.slice va k vc) l fs) := HLV.1
      have HLN : Aside (∀ f ∈ l, f.bytes.length = 4096) := HLV.2.1
      have HCF : Aside (∀ f ∈ fs, CapOk f ∧ f.ownBlock ≠ some w.heap.size) := HLV.2.2.1
      have HVB : Aside ((Value.slice va k vc).ownBlock ≠ some w.heap.size) := HLV.2.2.2
      have HPG : Aside (∀ f ∈ l, 0 ≤ f.page ∧ f.page < 4294967296 ∧ Byte f.bytes) := HR.out.pg
      have HK4 : Aside (k ≤ 1024) := by have := HR.out.km; have := HMM.out; show k ≤ 1024; omega
      have HLEN : Aside (l.length = k) := HL.out.len
      have b0 : wr.cell? ⟨h, 0, none⟩ = some (.bool (a1 != 0)) := HL.out.D.cell.1 0
      have b1 : wr.cell? ⟨h, 1, none⟩ = some (.int .u64 root) := HL.out.D.cell.1 1
      have b2 : wr.cell? ⟨h, 2, none⟩ = some (.int .i64 asid) := HL.out.D.cell.1 2
      clear hgo HLV
      rcases hcond with hc | ⟨hc, hs⟩ | ⟨hc, hs, hc2⟩
      all_goals go_wp2_with fail
      all_goals
        by_cases hck : chk ⟨a1 != 0, root, asid, l⟩ = 0
        · have HCK : Aside (chk ⟨a1 != 0, root, asid, l⟩ = 0) := hck
          refine (Encode_any (a1 != 0) root asid va k vc wr.heap.size l fs _ HLEN.out HK4.out (Nat.le_refl _) hb3.1 hb3.2 HLV'.out (fun f hf => by have := HPG.out f hf; omega) HLN.out (fun f hf => (HCF.out f hf).1) hck).mono ?_
          rintro e w8 ⟨v8, rfl, hb8, ho8⟩
          have HB8 : Aside (Below wr.heap.size wr w8) := hb8
          have HO8 : Aside (Bs w8.heap.size w8 v8 (enc ⟨a1 != 0, root, asid, l⟩)) := Bs.owned ho8
          have hD8 := HL.out.D.kept hb8
          have e0 := hD8.cell.1 0
          have e1 := hD8.cell.1 1
          have e2 := hD8.cell.1 2
          have e3 := hD8.cell.1 3
          have r0 := hD8.out.1 0
          have r1 := hD8.out.1 1
          have r2 := hD8.out.1 2
          have r3 := hD8.out.1 3
          have rf := hD8.out.2
          have HD8 : Aside (Dec w w8 g h d (.bool (a1 != 0)) (.int .u64 root) (.int .i64 asid) (.slice va k vc)) := hD8
          obtain ⟨a8, c8, rfl⟩ := HO8.out.shape
          have hcv1 := conv_bytes HO8.out rfl (enc_pos _) w8 (Below.refl _ _)
          have hcv2 := conv_bytes HX.out HN.out HLP.out w8 (HD8.out.bl.mono hBw)
          have hEB : Byte (enc ⟨a1 != 0, root, asid, l⟩) := enc_byte _ (fun f hf => (HPG.out f hf).2.2)
          by_cases heq : enc ⟨a1 != 0, root, asid, l⟩ = L
          · have HEQ : Aside (enc ⟨a1 != 0, root, asid, l⟩ = L) := heq
            have hst : ((strOfNums (enc ⟨a1 != 0, root, asid, l⟩)).toList == (strOfNums L).toList) = true := by rw [heq]; exact beq_self_eq_true _
            clear hck hb8 ho8 hEB heq hD8
            go_wp2_with fail
            simp only [Exit.jump]
            refine bodyPost_ret (v := .tuple #[.agg #[.bool (a1 != 0), .int .u64 root, .int .i64 asid, .slice va k vc], .int .i64 0]) (by simp [results, Try.results18, go_sem, r0, r1, r2, r3]) rfl ?_
            rw [HSTOP.out]
            refine DecPost.good (m := ⟨a1 != 0, root, asid, l⟩) (fs := fs) ((((HD8.out.bl.setCell (by simp) _).setCell (by simp) _).setCell (by simp) _).setCell (by simp) _) ⟨HCK.out, HEQ.out⟩ ?_ (fun f hf => (HCF.out f hf).1)
            have hl8 := (HLV'.out.below HB8.out).up HB8.out.size
            have hbf : ∀ f ∈ fs, f.ownBlock ≠ some w.heap.size := fun f hf => (HCF.out f hf).2
            have := LeavesF_set (j := 3) (u := .slice va k vc) (LeavesF_set (j := 2) (u := .int .i64 asid) (LeavesF_set (j := 1) (u := .int .u64 root) (LeavesF_set (j := 0) (u := .bool (a1 != 0)) hl8 HVB.out hbf) HVB.out hbf) HVB.out hbf) HVB.out hbf
            simpa using this
          · have HEQ : Aside (¬ enc ⟨a1 != 0, root, asid, l⟩ = L) := heq
            have hst : ((strOfNums (enc ⟨a1 != 0, root, asid, l⟩)).toList == (strOfNums L).toList) = false := by
              rw [beq_eq_false_iff_ne]; exact fun e => heq (strOfNums_inj hEB HBY.out e)
            clear hck hb8 ho8 hEB heq hD8
            go_wp2_with fail
            go_step3
            go_wp2_with fail
            simp only [Exit.jump]
            refine bodyPost_ret (v := .tuple #[.agg #[.bool false, .int .u64 0, .int .i64 0, .slice none 0 0], .int .i64 4]) (by simp [results, Try.results18, go_sem, r0, r1, r2, r3]) rfl ?_
            rw [HSTOP.out]
            exact DecPost.bad ((((HD8.out.bl.setCell (by simp) _).setCell (by simp) _).setCell (by simp) _).setCell (by simp) _) (fun h => HEQ.out h.2)
        · have HCK : Aside (¬ chk ⟨a1 != 0, root, asid, l⟩ = 0) := hck
          refine (Encode_bad (a1 != 0) root asid va k vc wr.heap.size l fs _ HLEN.out (by have := HK4.out; omega) (Nat.le_refl _) hb3.1 hb3.2 HLV'.out (fun f hf => by rw [HLN.out f hf]; omega) hck).mono ?_
          rintro e w8 ⟨rfl, hb8⟩
          have hD8 := HL.out.D.kept hb8
          have r0 := hD8.out.1 0
          have r1 := hD8.out.1 1
          have r2 := hD8.out.1 2
          have r3 := hD8.out.1 3
          have rf := hD8.out.2
          have HD8 : Aside (Dec w w8 g h d (.bool (a1 != 0)) (.int .u64 root) (.int .i64 asid) (.slice va k vc)) := hD8
          clear hck hb8 hD8
          have hck0 : ¬ chk ⟨a1 != 0, root, asid, l⟩ = 0 := HCK.out
          go_wp2_with fail
          go_step3
          go_wp2_with fail
          simp only [Exit.jump]
          refine bodyPost_ret (v := .tuple #[.agg #[.bool false, .int .u64 0, .int .i64 0, .slice none 0 0], .int .i64 4]) (by simp [results, Try.results18, go_sem, r0, r1, r2, r3]) rfl ?_
          rw [HSTOP.out]
          exact DecPost.bad ((((HD8.out.bl.setCell (by simp) _).setCell (by simp) _).setCell (by simp) _).setCell (by simp) _) (fun h => HCK.out h.1)
  · intro HNEXT
    go_upto_region 1 with fail
    go_cut [4] from 10 (fun p wc => ∃ g, p = .pointer (some ⟨g, 0, none⟩) ∧ RdAt g wc g ⟨L, false⟩ ∧ w.heap.size < g ∧ wc.heap[w.heap.size]? = some img0 ∧ Below w.heap.size w wc)
    case first =>
      rcases x with _ | ad
      · have hL : L = [] := by
          obtain ⟨a, cap, he, h3⟩ := HX.out
          cases he
          rcases h3 with h3 | ⟨b, off, he, _⟩
          · exact h3
          · cases he
        have hn0 : n = 0 := by rw [← HN.out, hL]; rfl
        subst hn0
        go_wp2_with fail
        go_meet
        have hown : (w.alloc img0).ownsRow 0 5 1 (.slice none 0 0) 0 ([].map (Value.int .u8)) := World.ownsRow_nil _ _ _ _
        have hrd := rd_new (w := w) rfl hown
        have e : (w.alloc img0).heap.size = w.heap.size + 1 := by simp
        rw [e] at hrd
        rw [hL]
        exact ⟨w.heap.size + 1, rfl, hrd, by omega, (Below.heap_alloc _ _ _ (by simp)).trans heap_n0, ((Below.refl _ _).alloc (Nat.le_refl _) _).alloc (by simp) _⟩
      · have HNW : Aside (∀ j u, (L.map (Value.int .u8))[j]? = some u → (w.alloc img0).cell? (ad.add j) = some u) := Bs_news HX.out ((Below.refl _ _).alloc hBw _)
        go_wp2_with (at_builtin; refine wpList_append_own_at _ rfl _ _ 32 rfl (w.heap.size + 1) 5 i0 _ 1 1 Try.underlying32 hi0 hz0 hz1 hz2 rfl (by decide) _ 0 [] rfl (World.ownsRow_nil _ _ _ _) ad n _ (L.map (Value.int .u8)) rfl (by rw [List.length_map, HN.out]; omega) HNW.out ints_one (by unfold maxLen; omega) (by omega) (by simp) ?_; intro v' w9 hown' hgrow hnil hloc; rw [Nat.zero_add, List.nil_append] at hown'; obtain ⟨va', vc', rfl⟩ := slice_form0 hown'; have HO : Aside (w9.ownsRow (w.heap.size + 1) 5 1 (.slice va' n vc') n (L.map (Value.int .u8))) := hown'; have HG : Aside ((w.alloc img0).grownBy w9 none) := hgrow; clear hown' hgrow hnil hloc)
        go_meet
        have h9 := HG.out.size
        simp at h9
        refine ⟨w9.heap.size, rfl, rd_new (w := w) HN.out HO.out, by omega, ?_, ?_⟩
        · rw [Below.heap_alloc _ _ _ (by omega), HG.out.block _ (by simp) (by simp)]; exact heap_n0
        · exact ((((Below.refl _ _).alloc (Nat.le_refl _) _).grown HG.out (by simp) (by simp)).alloc (by omega) _)
    case rest =>
      obtain ⟨g, rfl, hrd, hlo, hres, hbl⟩ := hcut
      have HD0 : Aside (Dec w (wc.alloc img0) g wc.heap.size ⟨L, false⟩ (.bool false) (.int .u64 0) (.int .i64 0) (.slice none 0 0)) :=
        ⟨hrd.grow (World.grownBy_alloc _ _ none), hlo, hrd.1.1, by simp, by rw [Below.heap_alloc _ _ _ (by have := hrd.1.1; omega)]; exact hres, heap_n0, hbl.alloc hbl.size _⟩
      clear hrd hlo hres hbl
      go_wp2_with fail
      refine (take_callsE (B := g) g HM.out _ (by omega) (by rw [HN.out]; omega) HD0.out.rd).mono ?_
      rintro e w2 ⟨v, rfl, hbs, hrd, hg⟩
      obtain ⟨va, vc, rfl⟩ := Bs.form hbs (n := 4) rfl
      have hcv := conv_bytes hbs (n := 4) rfl (by omega) w2 (Below.refl _ _)
      have HD1 : Aside (Dec w w2 g wc.heap.size d0 (.bool false) (.int .u64 0) (.int .i64 0) (.slice none 0 0)) := HD0.out.call hrd hg
      have hmk : ((strOfNums [68, 77, 73, 49]).toList == [68, 77, 73, 49]) = true := mark_yes rfl
      clear hbs hrd hg
      go_wp2_with fail
      refine (number_callsE (B := g) g H1.out _ (by omega) (by have := HB0.out.1; omega) HB0.out.2 HD1.out.rd).mono ?_
      rintro e w3 ⟨rfl, hrd, hg⟩
      have HD2 : Aside (Dec w w3 g wc.heap.size d1 (.bool false) (.int .u64 0) (.int .i64 0) (.slice none 0 0)) := HD1.out.call hrd hg
      have hwa : IntKind.i64.wrap asid = asid := by rw [IntWalk.i64_left]; unfold wrap64; omega
      have c0 := HD2.out.cell.1 0
      have f0 := HD2.out.cell.2 0
      clear hrd hg hcv
      have HD3 : Aside (Dec w (w3.setCell ⟨wc.heap.size, 0, none⟩ (.bool (a1 != 0))) g wc.heap.size d1 (.bool (a1 != 0)) (.int .u64 0) (.int .i64 0) (.slice none 0 0)) := HD2.out.set rfl
      go_wp2_with fail
      refine (number_callsE (B := g) g H2.out _ (by omega) (by have := HB1.out.1; omega) HB1.out.2 HD3.out.rd).mono ?_
      rintro e w4 ⟨rfl, hrd, hg⟩
      have HD4 : Aside (Dec w w4 g wc.heap.size d2 (.bool (a1 != 0)) (.int .u64 0) (.int .i64 0) (.slice none 0 0)) := HD3.out.call hrd hg
      clear c0 f0 hrd hg
      have c2 := HD4.out.cell.1 2
      have f2 := HD4.out.cell.2 2
      have HD5 : Aside (Dec w (w4.setCell ⟨wc.heap.size, 2, none⟩ (.int .i64 asid)) g wc.heap.size d2 (.bool (a1 != 0)) (.int .u64 0) (.int .i64 asid) (.slice none 0 0)) := HD4.out.set rfl
      go_wp2_with fail
      refine (number_callsE (B := g) g H3.out _ (by omega) (by have := HB2.out.1; omega) HB2.out.2 HD5.out.rd).mono ?_
      rintro e w5 ⟨rfl, hrd, hg⟩
      have HD6 : Aside (Dec w w5 g wc.heap.size d3 (.bool (a1 != 0)) (.int .u64 0) (.int .i64 asid) (.slice none 0 0)) := HD5.out.call hrd hg
      clear c2 f2 hrd hg
      have c1 := HD6.out.cell.1 1
      have f1 := HD6.out.cell.2 1
      have HD7 : Aside (Dec w (w5.setCell ⟨wc.heap.size, 1, none⟩ (.int .u64 root)) g wc.heap.size d3 (.bool (a1 != 0)) (.int .u64 root) (.int .i64 asid) (.slice none 0 0)) := HD6.out.set rfl
      go_wp2_with fail
      refine (number_callsE (B := g) g H4.out _ (by omega) (by have := HB3.out.1; omega) HB3.out.2 HD7.out.rd).mono ?_
      rintro e w6 ⟨rfl, hrd, hg⟩
      have HD8 : Aside (Dec w w6 g wc.heap.size d4 (.bool (a1 != 0)) (.int .u64 root) (.int .i64 asid) (.slice none 0 0)) := HD7.out.call hrd hg
      clear c1 f1 hrd hg
      go_wp2_with fail
      go_step3
      rename ∀ a w, Code.wp _ _ _ a w → _ => hK
      refine hK _ _ (HNEXT.out _ _ ?_)
      exact (JN.mk (k := 0) (va := none) (vc := 0) (l := []) (fs := []) (d := d4) rfl ⟨HD8.out, World.ownsRow_nil _ _ _ _, rfl, rfl, fun i s f h => by simp at h⟩ ⟨Nat.zero_le _, by simp, HB4.out.1, HB4.out.2, fun f hf => by simp at hf⟩)

theorem dec_none {L : List Int} (h : (take ⟨L, false⟩ 4).1 ≠ [68, 77, 73, 49]) : dec L = none := by
  unfold dec parse
  rw [if_neg h]
  rfl

theorem Decode_calls {B : Nat} {L : List Int} {x : Value} (w : World) (hbig : L.length ≤ 1000000) (hBw : B ≤ w.heap.size) (hby : Byte L) (hx : Bs B w x L) :
    Calls Try.prog 18 #[x] w fun e w' => Below w.heap.size w w' ∧ (match dec L with
      | none => e = .returned (.tuple #[.agg #[.bool false, .int .u64 0, .int .i64 0, .slice none 0 0], .int .i64 4])
      | some m => ∃ v fs, e = .returned (.tuple #[.agg #[.bool m.on, .int .u64 m.root, .int .i64 m.asid, v], .int .i64 0]) ∧ LeavesF w'.heap.size w' v m.leaves fs ∧ ∀ f ∈ fs, CapOk f) := by
  obtain ⟨a, c, rfl⟩ := hx.shape
  by_cases hm : (take ⟨L, false⟩ 4).1 = [68, 77, 73, 49]
  · obtain ⟨⟨m0, d0⟩, ht⟩ : ∃ p, take ⟨L, false⟩ 4 = p := ⟨_, rfl⟩
    have hm0 : m0 = [68, 77, 73, 49] := by rw [ht] at hm; exact hm
    subst hm0
    obtain ⟨⟨a1, d1⟩, h1⟩ : ∃ p, number d0 1 = p := ⟨_, rfl⟩
    obtain ⟨⟨asid, d2⟩, h2⟩ : ∃ p, number d1 1 = p := ⟨_, rfl⟩
    obtain ⟨⟨root, d3⟩, h3⟩ : ∃ p, number d2 8 = p := ⟨_, rfl⟩
    obtain ⟨⟨N, d4⟩, h4⟩ : ∃ p, number d3 4 = p := ⟨_, rfl⟩
    have B0 : d0.left.length ≤ 1000000 ∧ Byte d0.left := by
      have e : d0 = (take ⟨L, false⟩ 4).2 := by rw [ht]
      rw [e]
      exact ⟨Nat.le_trans take_left hbig, (take_byte hby).2⟩
    have B1 := numberE h1 B0.1 B0.2
    have B2 := numberE h2 B1.1 B1.2
    have B3 := numberE h3 B2.1 B2.2
    have n2 := num_lt (n := 1) B1.2
    rw [h2] at n2
    have n3 := num_lt (n := 8) B2.2
    rw [h3] at n3
    have n4 := num_lt (n := 4) B3.2
    rw [h4] at n4
    refine (Decode_right a L.length c B L w rfl hbig hBw hby hx ht h1 h2 h3 h4 rfl n2 n3 n4).mono ?_
    rintro e w' ⟨hb, he⟩
    refine ⟨hb, ?_⟩
    have hp : parse L = some ⟨a1 != 0, root, asid, (leavesOf (min N.toNat 1024) d4).1⟩ := by
      unfold parse
      rw [ht]
      show (if ([68, 77, 73, 49] : List Int) = [68, 77, 73, 49] then some (body d0) else none) = _
      rw [if_pos rfl]
      unfold body
      simp only
      rw [h1]
      simp only
      rw [h2]
      simp only
      rw [h3]
      simp only
      rw [h4]
      rfl
    have hd : dec L = if chk ⟨a1 != 0, root, asid, (leavesOf (min N.toNat 1024) d4).1⟩ = 0 ∧ enc ⟨a1 != 0, root, asid, (leavesOf (min N.toNat 1024) d4).1⟩ = L then some ⟨a1 != 0, root, asid, (leavesOf (min N.toNat 1024) d4).1⟩ else none := by
      unfold dec
      rw [hp]
      rfl
    split at he
    · rename_i hc
      rw [hd, if_pos hc]
      exact he
    · rename_i hc
      rw [hd, if_neg hc]
      exact he
  · rw [dec_none hm]
    refine (Decode_wrong a L.length c B L w rfl hbig hBw hby hx hm).mono ?_
    rintro e w' ⟨he, hb⟩
    exact ⟨hb, he⟩
end Go.Proofs.Ytdlnipimljpmgaa

