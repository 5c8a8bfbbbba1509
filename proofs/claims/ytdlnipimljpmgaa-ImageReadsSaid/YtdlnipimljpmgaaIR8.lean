/- The document's Decode of what is long enough. -/
import Derived.Test.YtdlnipimljpmgaaIR9
set_option linter.unusedVariables false
set_option linter.unusedSimpArgs false
set_option linter.unusedSectionVars false
set_option linter.unnecessarySimpa false
namespace Go.Proofs.Ytdlnipimljpmgaa
open Go Go.RowKit Go.Im Go.Lib

/-- What the loop keeps. -/
structure RLp (w wr : World) (L : List Int) (n : Nat) (u4 u5 : Int) (p k : Nat) (ls : List Lf) (fs : List Value) (va : Option Addr) (vc : Nat) : Prop where
  pn : p ≤ n
  k5 : k ≤ 1025
  len : ls.length = k
  rd : RD w wr (u4 == 1) (num L 6 8) u5 ls fs (.slice va k vc)
  ok : LOk ls
  ref : refLeaves 1025 (L.drop 18) = (refLeaves (1025 - k) (L.drop p)).map (fun r : List Lf => ls ++ r)

set_option maxRecDepth 100000 in
set_option maxHeartbeats 4000000 in
theorem refDecode_long (a : Option Addr) (n c B : Nat) (L : List Int) (w : World) (hn : L.length = n) (hbig : n ≤ 1000000) (h18 : 18 ≤ n) (hBw : B ≤ w.heap.size) (hby : Byte L) (hx : Bs B w (.slice a n c) L) (hcap : n ≤ c) :
    Calls Try.prog 19 #[.slice a n c] w fun e w' => RefPost w (refDec L) e w' := by
  have HX : Aside (Bs B w (.slice a n c) L) := hx
  have HBY : Aside (Byte L) := hby
  have HN : Aside (L.length = n) := hn
  clear hx hby hn
  obtain ⟨b, off, u4, rfl, hB, hu4, hc4⟩ := HX.out.at (j := 4) (by rw [HN.out]; omega)
  obtain ⟨b', off', u5, he, -, hu5, hc5⟩ := HX.out.at (j := 5) (by rw [HN.out]; omega)
  cases he
  have hb5 := HBY.out u5 (List.mem_of_getElem? hu5)
  have hz29 := zero29'
  have hi : ¬ (n : Int) < 18 := by omega
  have hi4 : (4 : Int) < (n : Int) := by omega
  have hi5 : (5 : Int) < (n : Int) := by omega
  have hbl : b < w.heap.size := Nat.lt_of_lt_of_le hB hBw
  have HPA : Aside (refParse L = (refLeaves 1025 (L.drop 18)).map fun r => ⟨u4 == 1, num L 6 8, u5, r⟩) := refParse_long (by rw [HN.out]; exact h18) hu4 hu5
  have HNM : Aside (∀ w2, Below w.heap.size w w2 → Calls Try.prog 39 #[.slice (some ⟨b, off, none⟩) n c, .int .i64 6, .int .i64 8] w2 fun e w' => e = .returned (.int .u64 (num L 6 8)) ∧ w' = w2) := fun w2 h2 =>
    num_any (some ⟨b, off, none⟩) n c B 6 8 L w2 HN.out (by omega) (by omega) (by omega) HBY.out (HX.out.below (h2.mono hBw))
  obtain ⟨v5, hv5⟩ : ∃ v5 : Bool, decide (u4 = 1) = v5 := ⟨_, rfl⟩
  obtain ⟨l0, hl0, hl⟩ := Option.map_eq_some_iff.1 info68
  simp only [Prod.mk.injEq] at hl
  obtain ⟨hl1, hl2, hl3⟩ := hl
  clear hu4 hu5
  go_enter Try.func19, Try.ntmps19
  go_upto_region 3 with fail
  go_cut [4] from 10 (fun v wc => v = .pointer (some ⟨w.heap.size + 1, 0, none⟩) ∧ RD w wc (u4 == 1) (num L 6 8) u5 [] [] (.slice none 0 0))
  case first =>
    have hd4 : (w.alloc (.cells #[.bool false, .int .u64 0, .int .i64 0, .slice none 0 0] 29)).cell? ⟨b, off + 4, none⟩ = some (.int .u8 u4) := by rw [alloc_cells _ _ _ _ hbl]; exact hc4
    have hd5 : (w.alloc (.cells #[.bool false, .int .u64 0, .int .i64 0, .slice none 0 0] 29)).cell? ⟨b, off + 5, none⟩ = some (.int .u8 u5) := by rw [alloc_cells _ _ _ _ hbl]; exact hc5
    go_region_held3 (fun w' => w'.cell? ⟨b, off + 4, none⟩ = some (.int .u8 u4) ∧ w'.cell? ⟨b, off + 5, none⟩ = some (.int .u8 u5)) (go_keep) (first
      | (go_simp; go_at_call 39; (with_reducible refine (HNM.out _ ?_).mono ?_); first | exact below_alloc w _ | exact (below_alloc w _).drew | exact ((below_alloc w _).alloc (by simp) _) | exact ((below_alloc w _).alloc (by simp) _).drew; rintro e w' ⟨rfl, hww⟩; replace hww := hww.symm; subst hww)
      | (go_loud (go_simp; go_at_call 39; (with_reducible refine (HNM.out _ ?_).mono ?_); exact ((below_alloc w _).alloc (by simp) _).drew; rintro e w' ⟨rfl, hww⟩; replace hww := hww.symm; subst hww)))
    all_goals have hw5 : IntKind.i64.wrap u5 = u5 := IntWalk.i64_in _ (by omega)
    all_goals (try rw [hw5])
    all_goals (try go_wp2_with fail)
    all_goals go_meet
    all_goals refine ⟨rfl, ?_, ?_, ⟨World.ownsRow_nil _ _ _ _, rfl, fun i s f h => by simp at h, fun i j f g h => by simp at h⟩, ((below_alloc w _).alloc (by simp) _).drew, by show _ ≤ (((w.alloc _).alloc _)).heap.size; simp⟩
    all_goals first | exact heap_n1 | exact heap_m1 | (rw [hw5]; exact heap_n1) | (rw [hw5]; exact heap_m1)
  case rest =>
    obtain ⟨rfl, hrd⟩ := hcut
    have HRD : Aside (RD w wc (u4 == 1) (num L 6 8) u5 [] [] (.slice none 0 0)) := hrd
    clear hrd hc4 hc5 hv5 hb5
    go_wp2_with fail
    go_loopw [5] (fun i wr => ∃ (p k : Nat) (ls : List Lf) (fs : List Value) (va : Option Addr) (vc : Nat), i = .int .i64 p ∧ RLp w wr L n u4 u5 p k ls fs va vc)
      (fun i _ => n - (RowKit.intOf i).toNat)
    case atStart => exact ⟨18, 0, [], [], none, 0, rfl, h18, by omega, rfl, HRD.out, fun f hf => by simp at hf, by simp⟩
    case round =>
      obtain ⟨p, k, ls, fs, va, vc, rfl, hR⟩ := hrel
      have HR : Aside (RLp w wr L n u4 u5 p k ls fs va vc) := hR
      have hpn : p ≤ n := hR.pn
      have hk5 : k ≤ 1025 := hR.k5
      obtain ⟨⟨i0, i1, i2, i3⟩, ⟨r0, r1, r2, r3⟩, rf, jf⟩ := hR.rd.heads
      have hsz := hR.rd.sz
      clear hR
      by_cases hgo : k < 1025 ∧ p + 8 ≤ n
      · obtain ⟨hk, hp8⟩ := hgo
        have hki : (k : Int) < 1025 := by omega
        have hpi : (p : Int) + 8 ≤ (n : Int) := by omega
        obtain ⟨N, hN, hN6⟩ : ∃ N : Nat, num L (p + 6) 2 = (N : Int) ∧ N < 65536 := by
          have h := lnum_lt HBY.out (p + 6) 2
          have e : (256 : Int) ^ 2 = 65536 := rfl
          rw [e] at h
          exact ⟨(num L (p + 6) 2).toNat, by omega, by omega⟩
        have HN2 : Aside (Calls Try.prog 39 #[.slice (some ⟨b, off, none⟩) n c, .int .i64 ((p : Int) + 6), .int .i64 2] wr fun e w' => e = .returned (.int .u64 (N : Int)) ∧ w' = wr) := by
          have h := num_any (some ⟨b, off, none⟩) n c B (p + 6) 2 L wr HN.out (by omega) (by omega) (by omega) HBY.out (HX.out.below (HR.out.rd.bl.mono hBw))
          rw [hN] at h
          exact h
        have HNN : Aside (num L (p + 6) 2 = (N : Int)) := hN
        clear hN
        go_wp2_with fail
        refine HN2.out.mono ?_
        rintro e w2 ⟨rfl, hww⟩
        replace hww := hww.symm
        subst hww
        obtain ⟨b', off', t4, he, -, ht4, hc4⟩ := (HX.out.below (HR.out.rd.bl.mono hBw)).at (j := p + 4) (by rw [HN.out]; omega)
        cases he
        obtain ⟨b', off', t5, he, -, ht5, hc5⟩ := (HX.out.below (HR.out.rd.bl.mono hBw)).at (j := p + 5) (by rw [HN.out]; omega)
        cases he
        have hb4 := HBY.out t4 (List.mem_of_getElem? ht4)
        have HT : Aside (L[p + 4]? = some t4 ∧ L[p + 5]? = some t5) := ⟨ht4, ht5⟩
        have hNw : IntKind.i64.wrap (N : Int) = (N : Int) := IntWalk.i64_in _ (by omega)
        have hw4 : IntKind.i64.wrap t4 = t4 := IntWalk.i64_in _ (by omega)
        have hq4 : ((p : Int) + 4).toNat = p + 4 := by omega
        have hq5 : ((p : Int) + 5).toNat = p + 5 := by omega
        have hj4 : (p : Int) + 4 < (n : Int) := by omega
        have hj5 : (p : Int) + 5 < (n : Int) := by omega
        have hj40 : 0 ≤ (p : Int) + 4 := by omega
        have hj50 : 0 ≤ (p : Int) + 5 := by omega
        have hblr : b < wr.heap.size := by omega
        have hx4 : IntKind.i64.wrap ((p : Int) + 4) = (p : Int) + 4 := IntWalk.i64_in _ (by omega)
        have hx5 : IntKind.i64.wrap ((p : Int) + 5) = (p : Int) + 5 := IntWalk.i64_in _ (by omega)
        have HNP : Aside (∀ w2, Below wr.heap.size wr w2 → Calls Try.prog 39 #[.slice (some ⟨b, off, none⟩) n c, .int .i64 (p : Int), .int .i64 4] w2 fun e w' => e = .returned (.int .u64 (num L p 4)) ∧ w' = w2) := fun w2 h2 =>
          num_any (some ⟨b, off, none⟩) n c B p 4 L w2 HN.out (by omega) (by omega) (by omega) HBY.out (HX.out.below ((HR.out.rd.bl.trans (h2.mono (by omega))).mono hBw))
        have hmk : ∀ w : World, Sem.run Try.prog (Instr.makeSlice 32 (.int .i64 4096) (.int .i64 4096)) w = .ok (.slice (some ⟨w.heap.size, 0, none⟩) 4096 4096) (w.alloc (.cells (zerosA 4096) 5)) := make32 4096 (by omega)
        clear ht4 ht5 HN2
        go_upto_region 7 with fail
        go_cut [7] from 25 to 88 (fun lt wc => ∃ g gb, lt = .pointer (some ⟨g, 0, none⟩) ∧ NLf wr wc g gb (num L p 4) t4 (t5 == 1))
        case first =>
          go_region_held3 (fun w' => w'.cell? ⟨b, off + (p + 4), none⟩ = some (.int .u8 t4) ∧ w'.cell? ⟨b, off + (p + 5), none⟩ = some (.int .u8 t5)) (go_keep) (first
            | (go_simp; go_at_call 39; (with_reducible refine (HNP.out _ ?_).mono ?_); (first | exact Below.refl _ _ | exact (Below.refl _ _).drew | exact below_alloc wr _ | exact (below_alloc wr _).drew | exact ((below_alloc wr _).alloc (by simp) _) | exact ((below_alloc wr _).alloc (by simp) _).drew); rintro e w' ⟨rfl, hww⟩; replace hww := hww.symm; subst hww))
          all_goals (try go_wp2_with fail)
          all_goals go_meet
          all_goals first
            | exact ⟨_, _, rfl, ⟨by omega, by omega, by omega, heap_m1, heap_n1, ((below_alloc wr _).alloc (by simp) _).drew⟩⟩
            | exact ⟨_, _, rfl, ⟨by omega, by omega, by omega, heap_n1, heap_m1, ((below_alloc wr _).alloc (by simp) _).drew⟩⟩
            | trace_state
        case rest =>
          obtain ⟨g, gb, rfl, hnl⟩ := hcut
          have HNL : Aside (NLf wr wc g gb (num L p 4) t4 (t5 == 1)) := hnl
          have HRC : Aside (RD w wc (u4 == 1) (num L 6 8) u5 ls fs (.slice va k vc)) := HR.out.rd.grow ⟨hnl.bl.os, hnl.bl.tape, hnl.bl.output, hnl.bl.size, fun i hi _ => hnl.bl.block i hi⟩
          have hx8 : IntKind.i64.wrap ((p : Int) + 8) = (p : Int) + 8 := IntWalk.i64_in _ (by omega)
          have hsub : IntKind.i64.wrap ((n : Int) - ((p : Int) + 8)) = (n : Int) - ((p : Int) + 8) := IntWalk.i64_in _ (by omega)
          clear hnl hc4 hc5 hq4 hq5 hj4 hj5 hj40 hj50 hx4 hx5 hw4 i0 i1 i2 i3 r0 r1 r2 r3 rf jf
          by_cases hbad : 4096 < N ∨ n < p + 8 + N
          · have HD : Aside (refDec L = none) := by
              refine refDec_no ?_
              rw [HPA.out, HR.out.ref]
              obtain ⟨m, hm⟩ : ∃ m, 1025 - k = m + 1 := ⟨1025 - k - 1, by omega⟩
              rw [hm, refLeaves_bad (by rw [HN.out]; exact hp8) (by rw [HNN.out, HN.out]; omega)]
              rfl
            obtain ⟨-, ⟨r0, r1, r2, r3⟩, rf, -⟩ := HRC.out.heads
            by_cases h4 : 4096 < N
            · have h4i : (4096 : Int) < (N : Int) := by omega
              go_wp2_with fail
              refine bodyPost_ret (v := .tuple #[.agg #[.bool false, .int .u64 0, .int .i64 0, .slice none 0 0], .int .i64 4]) (by simp [results, Try.results19, go_sem, r0, r1, r2, r3]) rfl ?_
              exact RefPost.bad ((((HRC.out.bl.setCell (by simp) _).setCell (by simp) _).setCell (by simp) _).setCell (by simp) _) HD.out
            · have h4i : ¬ (4096 : Int) < (N : Int) := by omega
              have h5i : (n : Int) - ((p : Int) + 8) < (N : Int) := by omega
              go_wp2_with fail
              refine bodyPost_ret (v := .tuple #[.agg #[.bool false, .int .u64 0, .int .i64 0, .slice none 0 0], .int .i64 4]) (by simp [results, Try.results19, go_sem, r0, r1, r2, r3]) rfl ?_
              exact RefPost.bad ((((HRC.out.bl.setCell (by simp) _).setCell (by simp) _).setCell (by simp) _).setCell (by simp) _) HD.out
          · have h4 : N ≤ 4096 := by omega
            have h5 : p + 8 + N ≤ n := by omega
            have h4i : ¬ (4096 : Int) < (N : Int) := by omega
            have h5i : ¬ (n : Int) - ((p : Int) + 8) < (N : Int) := by omega
            have h6i : (p : Int) + 8 + (N : Int) ≤ (n : Int) := by omega
            have h7i : (p : Int) + 8 + (N : Int) ≤ (c : Int) := by omega
            obtain ⟨s0, s1, s2, s3⟩ := nlf_cells HNL.out.gx
            obtain ⟨cs, hcs⟩ : ∃ cs, (((L.drop (p + 8)).take N).take 4096).map (Value.int .u8) = cs := ⟨_, rfl⟩
            have HCS : Aside ((((L.drop (p + 8)).take N).take 4096).map (Value.int .u8) = cs) := hcs
            have HCL : Aside (cs.length = N) := by
              show _ = _
              rw [← hcs]
              simp [HN.out]
              omega
            clear hcs hbad
            have hx9 : IntKind.i64.wrap ((p : Int) + 8 + (N : Int)) = (p : Int) + 8 + (N : Int) := IntWalk.i64_in _ (by omega)
            have hp80 : 0 ≤ (p : Int) + 8 := by omega
            have hp89 : (p : Int) + 8 ≤ (p : Int) + 8 + (N : Int) := by omega
            have hqp8 : ((p : Int) + 8).toNat = p + 8 := by omega
            have hqp9 : ((p : Int) + 8 + (N : Int)).toNat = p + 8 + N := by omega
            have HCN : Aside (cs.length = Nat.min N 4096) := by
              show _ = _
              rw [HCL.out]
              exact (Nat.min_eq_left h4).symm
            have HSRC : Aside (0 < cs.length → ∃ ad, (if c = p + 8 then some (⟨b, off, none⟩ : Addr) else some ⟨b, off + (p + 8), none⟩) = some ad ∧ ∀ j v, cs[j]? = some v → wc.cell? (ad.add j) = some v) := by
              intro h
              rw [HCL.out] at h
              refine ⟨⟨b, off + (p + 8), none⟩, by rw [if_neg (by omega)], fun j v hj => ?_⟩
              rw [Addr.add_lit]
              rw [← HCS.out, List.getElem?_map, List.getElem?_take] at hj
              split at hj
              · rw [List.getElem?_take] at hj
                split at hj
                · rw [List.getElem?_drop] at hj
                  obtain ⟨a', c', he, h3⟩ := HX.out.below (HRC.out.bl.mono hBw)
                  cases he
                  rcases h3 with h3 | ⟨b', off', he, _, hc⟩
                  · have h0 : L.length = 0 := by rw [h3]; rfl
                    have h1 := HN.out
                    omega
                  · cases he
                    have := hc (p + 8 + j) v (by rw [List.getElem?_map]; exact hj)
                    rw [← Nat.add_assoc] at this
                    exact this
                · simp at hj
              · simp at hj
            go_upto_region 11 with fail
            go_region_law (first
              | (refine step_copy_only rfl (.tmp 72) (.tmp 78) 32 32 rfl 5 Try.underlying32 size5 _ (if c = p + 8 then some (⟨b, off, none⟩ : Addr) else some ⟨b, off + (p + 8), none⟩) 4096 4096 N (c - (p + 8)) rfl rfl gb 0 (List.replicate 4096 (Value.int .u8 0)) 5 HNL.out.zs cs HCN.out (fun h => ⟨rfl, HSRC.out h⟩) (by rw [HCL.out]; simp; omega) (by rw [← HCS.out]; exact ints_one) ?_; intro w7 hg7 hgr7))
            have HS7 : Aside (w7.heap[gb]? = some (.cells ((fill ((L.drop (p + 8)).take N)).map (Value.int .u8)).toArray 5)) := by
              have h := hg7.out
              rw [splice_fill HCS.out] at h
              exact h
            have HC7 : Aside (w7.heap[g]? = some (.cells #[.int .u64 (num L p 4), .int .i64 t4, .bool (t5 == 1), .slice (some ⟨gb, 0, none⟩) 4096 4096] 68) ∧ Below wr.heap.size wr w7) := HNL.out.copied (undrew hgr7)
            have HR7 : Aside (RD w w7 (u4 == 1) (num L 6 8) u5 ls fs (.slice va k vc)) := HR.out.rd.grow ⟨HC7.out.2.os, HC7.out.2.tape, HC7.out.2.output, HC7.out.2.size, fun i hi _ => HC7.out.2.block i hi⟩
            clear hg7 hgr7 s0 s1 s2 s3
            obtain ⟨s0, s1, s2, s3⟩ := nlf_cells HC7.out.1
            obtain ⟨⟨i0, i1, i2, i3⟩, ⟨r0, r1, r2, r3⟩, rf, jf⟩ := HR7.out.heads
            have i3a := fun ob => Lib.cell?_alloc_some ob i3
            clear i0 i1 i2 r0 r1 r2 r3 rf
            have HLS : Aside (ls.length = k) := HR.out.len
            have HRW : Aside (w7.ownsRow (w.heap.size + 2) 68 4 (.slice va k vc) k (flat ls fs)) := by
              have h := HR7.out.side.row
              rw [HLS.out] at h
              exact h
            have hsz7 : w.heap.size + 2 ≤ w7.heap.size := HR7.out.sz
            have hpp : IntKind.i64.wrap ((p : Int) + 8 + (N : Int)) = (p : Int) + 8 + (N : Int) := hx9
            go_wp2_with (at_builtin; refine wpList_append_own_at _ rfl _ _ 27 rfl (w.heap.size + 2) 68 l0 _ 4 48 Try.underlying27 hl0 hl1 hl2 hl3 rfl (by decide) _ k _ rfl (HRW.out.alloc _) ⟨w7.heap.size, 0, none⟩ 1 1 ((⟨num L p 4, t4, t5 == 1, fill ((L.drop (p + 8)).take N)⟩ : Lf).cells (.slice (some ⟨gb, 0, none⟩) 4096 4096)) rfl rfl cells_newL (cells_oneL _ rfl) (by unfold maxLen; omega) (by omega) (by simp; omega) ?_; intro v' w9 hown' hgrow hnil hloc; obtain ⟨vb', vd', rfl⟩ := slice_form0 hown'; have HR9 : Aside (RD w (w9.setCell ⟨w.heap.size + 1, 3, none⟩ (.slice vb' (k + 1) vd')) (u4 == 1) (num L 6 8) u5 (ls ++ [⟨num L p 4, t4, t5 == 1, fill ((L.drop (p + 8)).take N)⟩]) (fs ++ [.slice (some ⟨gb, 0, none⟩) 4096 4096]) (.slice vb' (k + 1) vd')) := HR.out.rd.leaf HC7.out.2 HS7.out HNL.out.gb0 (fill_ok HBY.out (p + 8) N).1 hgrow (by rw [HLS.out]; exact hown'); obtain ⟨e0, e0f⟩ := HR7.out.box hgrow; clear hown' hgrow hnil hloc)
            go_roundw
            case rel =>
              refine ⟨p + 8 + N, k + 1, _, _, vb', vd', by go_num, h5, by omega, by simp [HLS.out], HR9.out, ?_, ?_⟩
              · intro f hf
                rcases List.mem_append.1 hf with hf | hf
                · exact HR.out.ok f hf
                · simp only [List.mem_singleton] at hf
                  subst hf
                  have h4 := lnum_lt HBY.out p 4
                  exact ⟨⟨h4.1, by have e : (256 : Int) ^ 4 = 4294967296 := rfl; rw [e] at h4; exact h4.2⟩, fill_ok HBY.out (p + 8) N⟩
              · rw [HR.out.ref]
                obtain ⟨m, hm⟩ : ∃ m, 1025 - k = m + 1 := ⟨1025 - k - 1, by omega⟩
                have e5 : 1025 - (k + 1) = m := by omega
                have g4 : L.getD (p + 4) 0 = t4 := by rw [List.getD_eq_getElem?_getD, HT.out.1]; rfl
                have g5 : L.getD (p + 5) 0 = t5 := by rw [List.getD_eq_getElem?_getD, HT.out.2]; rfl
                rw [hm, e5, refLeaves_step (by rw [HN.out]; exact hp8) (by rw [HNN.out, HN.out]; omega), HNN.out, Int.toNat_natCast, g4, g5, Option.map_map]
                congr 1
                funext r
                simp
            case measure => simp [RowKit.intOf]; omega
      · have HPS : Aside (refParse L = some ⟨u4 == 1, num L 6 8, u5, ls⟩) := by
          show _ = _
          rw [HPA.out, HR.out.ref]
          have h0 : refLeaves (1025 - k) (L.drop p) = some [] := by
            by_cases h : k < 1025
            · exact refLeaves_end (by rw [HN.out]; omega)
            · rw [show 1025 - k = 0 by omega]; exact refLeaves_stop L p
          rw [h0]
          simp
        have HDD : Aside (refDec L = if chk ⟨u4 == 1, num L 6 8, u5, ls⟩ = 0 ∧ enc ⟨u4 == 1, num L 6 8, u5, ls⟩ = L then some ⟨u4 == 1, num L 6 8, u5, ls⟩ else none) := refDec_of HPS.out
        have HLS : Aside (ls.length = k) := HR.out.len
        have HOK : Aside (LOk ls) := HR.out.ok
        have HLV : Aside (LeavesF wr.heap.size wr (.slice va k vc) ls fs ∧ ∀ f ∈ fs, CapOk f) := HR.out.rd.side.leaves
        have HR6 : Aside (0 ≤ num L 6 8 ∧ num L 6 8 < 18446744073709551616) := by
          have h := lnum_lt HBY.out 6 8
          have e : (256 : Int) ^ 8 = 18446744073709551616 := rfl
          rw [e] at h
          exact h
        clear HPA r0 r1 r2 r3 rf jf
        by_cases hk : k < 1025
        case' pos =>
          have hki : (k : Int) < 1025 := by omega
          have hpi : ¬ (p : Int) + 8 ≤ (n : Int) := by omega
          go_wp2_with fail
        case' neg =>
          have hki : ¬ (k : Int) < 1025 := by omega
          go_wp2_with fail
        all_goals clear i0 i1 i2 i3
        all_goals
          by_cases hck : chk ⟨u4 == 1, num L 6 8, u5, ls⟩ = 0
          · have HCK : Aside (chk ⟨u4 == 1, num L 6 8, u5, ls⟩ = 0) := hck
            refine (refEnc_any (u4 == 1) (num L 6 8) u5 va k vc wr.heap.size ls fs _ HLS.out (by have := (chk_facts hck).1; have := HLS.out; simp only at *; omega) (Nat.le_refl _) HR6.out.1 HR6.out.2 HLV.out.1 (fun f hf => by have := (HOK.out f hf).1; omega) (fun f hf => (HOK.out f hf).2.1) HLV.out.2 hck).mono ?_
            rintro e w8 ⟨v8, rfl, hb8, N8, hm8⟩
            have HB8 : Aside (Below wr.heap.size wr w8) := hb8
            have HO8 : Aside (Bs w8.heap.size w8 v8 (enc ⟨u4 == 1, num L 6 8, u5, ls⟩)) := Bs.mrow hm8
            have HD8 : Aside (RD w w8 (u4 == 1) (num L 6 8) u5 ls fs (.slice va k vc)) := HR.out.rd.grow ⟨hb8.os, hb8.tape, hb8.output, hb8.size, fun i hi _ => hb8.block i hi⟩
            obtain ⟨⟨i0, i1, i2, i3⟩, ⟨r0, r1, r2, r3⟩, rf, jf⟩ := HD8.out.heads
            obtain ⟨a8, c8, rfl⟩ := HO8.out.shape
            have hcv1 := conv_bytes HO8.out rfl (enc_pos _) w8 (Below.refl _ _)
            have hcv2 := conv_bytes HX.out HN.out (by omega) w8 (HD8.out.bl.mono hBw)
            have hEB : Byte (enc ⟨u4 == 1, num L 6 8, u5, ls⟩) := enc_byte _ (fun f hf => (HOK.out f hf).2.2)
            by_cases heq : enc ⟨u4 == 1, num L 6 8, u5, ls⟩ = L
            · have HEQ : Aside (enc ⟨u4 == 1, num L 6 8, u5, ls⟩ = L) := heq
              have hst : ((strOfNums (enc ⟨u4 == 1, num L 6 8, u5, ls⟩)).toList == (strOfNums L).toList) = true := by rw [heq]; exact beq_self_eq_true _
              clear hck hb8 hm8 hEB heq
              go_wp2_with fail
              refine bodyPost_ret (v := .tuple #[.agg #[.bool (u4 == 1), .int .u64 (num L 6 8), .int .i64 u5, .slice va k vc], .int .i64 0]) (by simp [results, Try.results19, go_sem, r0, r1, r2, r3]) rfl ?_
              refine RefPost.good (m := ⟨u4 == 1, num L 6 8, u5, ls⟩) (fs := fs) ((((HD8.out.bl.setCell (by simp) _).setCell (by simp) _).setCell (by simp) _).setCell (by simp) _) (by rw [HDD.out, if_pos ⟨HCK.out, HEQ.out⟩]) ?_ HLV.out.2
              have hl8 := (HLV.out.1.below HB8.out).up HB8.out.size
              have hap := HD8.out.apart
              have := LeavesF_set (j := 3) (u := .slice va k vc) (LeavesF_set (j := 2) (u := .int .i64 u5) (LeavesF_set (j := 1) (u := .int .u64 (num L 6 8)) (LeavesF_set (j := 0) (u := .bool (u4 == 1)) hl8 hap.1 hap.2) hap.1 hap.2) hap.1 hap.2) hap.1 hap.2
              simpa using this
            · have HEQ : Aside (¬ enc ⟨u4 == 1, num L 6 8, u5, ls⟩ = L) := heq
              have hst : ((strOfNums (enc ⟨u4 == 1, num L 6 8, u5, ls⟩)).toList == (strOfNums L).toList) = false := by
                rw [beq_eq_false_iff_ne]; exact fun e => heq (strOfNums_inj hEB HBY.out e)
              clear hck hb8 hm8 hEB heq
              go_wp2_with fail
              refine bodyPost_ret (v := .tuple #[.agg #[.bool false, .int .u64 0, .int .i64 0, .slice none 0 0], .int .i64 4]) (by simp [results, Try.results19, go_sem, r0, r1, r2, r3]) rfl ?_
              exact RefPost.bad ((((HD8.out.bl.setCell (by simp) _).setCell (by simp) _).setCell (by simp) _).setCell (by simp) _) (by rw [HDD.out, if_neg (fun h => HEQ.out h.2)])
          · have HCK : Aside (¬ chk ⟨u4 == 1, num L 6 8, u5, ls⟩ = 0) := hck
            have HK5 : Aside (k ≤ 1025) := hk5
            refine (refEnc_bad (u4 == 1) (num L 6 8) u5 va k vc wr.heap.size ls fs _ HLS.out (by have := HK5.out; omega) (Nat.le_refl _) HR6.out.1 HLV.out.1 (fun f hf => by rw [(HOK.out f hf).2.1]; omega) hck).mono ?_
            rintro e w8 ⟨rfl, hb8⟩
            have HD8 : Aside (RD w w8 (u4 == 1) (num L 6 8) u5 ls fs (.slice va k vc)) := HR.out.rd.grow ⟨hb8.os, hb8.tape, hb8.output, hb8.size, fun i hi _ => hb8.block i hi⟩
            obtain ⟨⟨i0, i1, i2, i3⟩, ⟨r0, r1, r2, r3⟩, rf, jf⟩ := HD8.out.heads
            obtain ⟨ck, hckk⟩ : ∃ ck, chk ⟨u4 == 1, num L 6 8, u5, ls⟩ = ck := ⟨_, rfl⟩
            rw [hckk]
            have hck0 : ¬ ck = 0 := by rw [← hckk]; exact hck
            clear hck hb8 hckk
            go_wp2_with fail
            refine bodyPost_ret (v := .tuple #[.agg #[.bool false, .int .u64 0, .int .i64 0, .slice none 0 0], .int .i64 4]) (by simp [results, Try.results19, go_sem, r0, r1, r2, r3]) rfl ?_
            exact RefPost.bad ((((HD8.out.bl.setCell (by simp) _).setCell (by simp) _).setCell (by simp) _).setCell (by simp) _) (by rw [HDD.out, if_neg (fun h => HCK.out h.1)])

theorem refDecode_calls {B : Nat} {L : List Int} {x : Value} (w : World) (hbig : L.length ≤ 1000000) (hBw : B ≤ w.heap.size) (hby : Byte L) (hx : Bs B w x L) (hcap : CapOk x) :
    Calls Try.prog 19 #[x] w fun e w' => RefPost w (refDec L) e w' := by
  obtain ⟨a, c, rfl⟩ := hx.shape
  by_cases h : L.length < 18
  · refine (refDecode_short a L.length c w h).mono ?_
    rintro e w' ⟨rfl, hb⟩
    exact RefPost.bad hb (refDec_short h)
  · exact refDecode_long a L.length c B L w rfl hbig (by omega) hBw hby hx hcap
end Go.Proofs.Ytdlnipimljpmgaa
