/- ref35.Same: two images. -/
import Derived.Test.YtdlnipimljpmgaaIW8
import Derived.Laws.BytesArg
import Derived.BigRegion
import Derived.RegionTactic
set_option linter.unusedVariables false
set_option linter.unusedSimpArgs false
set_option linter.unusedSectionVars false
set_option linter.unnecessarySimpa false
namespace Go.Proofs.Ytdlnipimljpmgaa
open Go Go.RowKit Go.Im Go.Lib

theorem conv_bytes {B : Nat} {w : World} {a : Option Addr} {n c : Nat} {l : List Int} (h : Bs B w (.slice a n c) l) (hl : l.length = n) (h0 : 0 < n) : ∀ w', Below B w w' → Sem.run Try.prog (convert 32 9 (.slice a n c)) w' = .ok (.string (strOfNums l)) w' := by
  intro w' hb
  have h := h.below hb
  obtain ⟨a', c', he, h3⟩ := h
  cases he
  rcases h3 with rfl | ⟨b, off, rfl, hB, hc⟩
  · simp at h0
  · refine run_convert_bytes_arg w' 32 5 Try.underlying32 Try.underlying5 b off _ c l rfl (fun i hi => ?_) 9 Try.underlying9
    exact hc i _ (by simp [List.getD, hi])

theorem strOfNums_inj : ∀ {l m : List Int}, Byte l → Byte m → (strOfNums l).toList = (strOfNums m).toList → l = m := by
  intro l m h1 h2 h
  have h' : (strOfNums l).data.toList = (strOfNums m).data.toList := by rw [← ByteArray.toList_eq, ← ByteArray.toList_eq]; exact h
  rw [strOfNums_data, strOfNums_data] at h'
  have key : ∀ (l m : List Int), Byte l → Byte m → l.map (fun n => UInt8.ofNat n.toNat) = m.map (fun n => UInt8.ofNat n.toNat) → l = m := by
    intro l
    induction l with
    | nil => intro m _ _ h; cases m with
      | nil => rfl
      | cons b m => simp at h
    | cons a l ih => intro m h1 h2 h; cases m with
      | nil => simp at h
      | cons b m =>
        simp only [List.map_cons, List.cons.injEq] at h
        have ha := h1 a (by simp)
        have hb := h2 b (by simp)
        have e : a = b := by
          have := congrArg UInt8.toNat h.1
          simp [UInt8.toNat_ofNat'] at this
          omega
        rw [e, ih m (fun x hx => h1 x (by simp [hx])) (fun x hx => h2 x (by simp [hx])) h.2]
  exact key l m h1 h2 h'

set_option maxRecDepth 100000 in
set_option maxHeartbeats 4000000 in
theorem Same_loop (on1 on2 : Bool) (root1 root2 asid1 asid2 : Int) (x y : Option Addr) (n c d B : Nat) (l m : List Lf) (fs gs : List Value) (w : World) (hn : l.length = n) (hm : m.length = n) (hbig : n ≤ 1000000) (hBw : B ≤ w.heap.size)
    (h1 : on1 = on2) (h2 : root1 = root2) (h3 : asid1 = asid2) (hx : LeavesF B w (.slice x n c) l fs) (hy : LeavesF B w (.slice y n d) m gs) (hl1 : ∀ f ∈ l, f.bytes.length = 4096 ∧ Byte f.bytes) (hl2 : ∀ f ∈ m, f.bytes.length = 4096 ∧ Byte f.bytes) :
    Calls Try.prog 15 #[.agg #[.bool on1, .int .u64 root1, .int .i64 asid1, .slice x n c], .agg #[.bool on2, .int .u64 root2, .int .i64 asid2, .slice y n d]] w fun e w' => e = .returned (.bool (decide (l = m))) ∧ Below w.heap.size w w' := by
  subst h1 h2 h3
  have HX : Aside (LeavesF B w (.slice x n c) l fs) := hx
  have HY : Aside (LeavesF B w (.slice y n d) m gs) := hy
  have HL1 : Aside (∀ f ∈ l, f.bytes.length = 4096 ∧ Byte f.bytes) := hl1
  have HL2 : Aside (∀ f ∈ m, f.bytes.length = 4096 ∧ Byte f.bytes) := hl2
  have HN : Aside (l.length = n ∧ m.length = n) := ⟨hn, hm⟩
  clear hx hy hl1 hl2 hn hm
  go_enter Try.func15, Try.ntmps15
  go_wp2_with fail
  go_loopw [5] (fun i wr => ∃ k : Nat, k ≤ n ∧ i = .int .i64 k ∧ Below (w.heap.size + 2) ((w.alloc (.cells #[.bool on1, .int .u64 root1, .int .i64 asid1, .slice x n c] 29)).alloc (.cells #[.bool on1, .int .u64 root1, .int .i64 asid1, .slice y n d] 29)) wr ∧ (∀ j, j < k → l[j]? = m[j]?))
    (fun i _ => n - (RowKit.intOf i).toNat)
  case atStart => exact ⟨0, Nat.zero_le _, rfl, Below.refl _ _, fun j hj => absurd hj (Nat.not_lt_zero _)⟩
  case round =>
    obtain ⟨k, hk, rfl, hbl, heq⟩ := hrel
    have HB0 : Aside (Below (w.heap.size + 2) ((w.alloc (.cells #[.bool on1, .int .u64 root1, .int .i64 asid1, .slice x n c] 29)).alloc (.cells #[.bool on1, .int .u64 root1, .int .i64 asid1, .slice y n d] 29)) wr) := hbl
    have HQ : Aside (∀ j, j < k → l[j]? = m[j]?) := heq
    have HB : Aside (Below w.heap.size w wr) := (((Below.refl _ _).alloc (Nat.le_refl _) _).alloc (by simp) _).trans (hbl.mono (by omega))
    have hsz : w.heap.size + 2 ≤ wr.heap.size := by have := hbl.size; simp at this; exact this
    have p3 : wr.cell? ⟨w.heap.size, 3, none⟩ = some (.slice x n c) := by
      rw [hbl.cell (by simp), alloc_cells _ _ _ _ (by simp)]; exact cell_new0 () rfl
    have q3 : wr.cell? ⟨w.heap.size + 1, 3, none⟩ = some (.slice y n d) := by
      rw [hbl.cell (by simp)]
      have := cell_new0 (w := w.alloc (.cells #[.bool on1, .int .u64 root1, .int .i64 asid1, .slice x n c] 29)) (cs := #[.bool on1, .int .u64 root1, .int .i64 asid1, .slice y n d]) (t := 29) (j := 3) () rfl
      simpa using this
    clear hbl heq
    by_cases hlt : k < n
    · obtain ⟨b, o, f, fa, fc, rfl, hB, hs, hat, hbs, hf⟩ := LeavesF.at2 HX.out HN.out.1 (HB.out.mono hBw) hlt
      obtain ⟨b', o', g, ga, gc, rfl, hB', ht, hat', hbs', hg⟩ := LeavesF.at2 HY.out HN.out.2 (HB.out.mono hBw) hlt
      obtain ⟨c0, c1, c2, c3⟩ := hat
      obtain ⟨d0, d1, d2, d3⟩ := hat'
      have hi : (k : Int) < (n : Int) := by omega
      have HS : Aside (l[k]? = some f) := hs
      have HT : Aside (m[k]? = some g) := ht
      have HF : Aside (Bs B wr (.slice fa f.bytes.length fc) f.bytes) := hbs
      have HG : Aside (Bs B wr (.slice ga g.bytes.length gc) g.bytes) := hbs'
      clear hs ht hbs hbs' hf hg
      have HC0 : Aside (wr.cell? ⟨b, o + k * 4, none⟩ = some (.int .u64 f.page) ∧ wr.cell? ⟨b, o + k * 4 + 1, none⟩ = some (.int .i64 f.kind)) := ⟨c0, c1⟩
      go_upto_region 6 with fail
      go_cut [6, 7] from 36 to 80 (fun p q wc => ∃ g1 g2, p = .pointer (some ⟨g1, 0, none⟩) ∧ q = .pointer (some ⟨g2, 0, none⟩) ∧ wc.heap[g1]? = some (.cells (f.cells (.slice fa f.bytes.length fc)).toArray 68) ∧ wc.heap[g2]? = some (.cells (g.cells (.slice ga g.bytes.length gc)).toArray 68) ∧ Below wr.heap.size wr wc)
      case first =>
        have a3 := fun ob => Lib.cell?_alloc_some ob p3
        have a3' := fun o1 o2 => Lib.cell?_alloc_some o2 (Lib.cell?_alloc_some o1 p3)
        have b3 := fun ob => Lib.cell?_alloc_some ob q3
        have b3' := fun o1 o2 => Lib.cell?_alloc_some o2 (Lib.cell?_alloc_some o1 q3)
        have x0 := fun ob => Lib.cell?_alloc_some ob c0
        have y0 := fun o1 o2 => Lib.cell?_alloc_some o2 (Lib.cell?_alloc_some o1 c0)
        have x1 := fun ob => Lib.cell?_alloc_some ob c1
        have y1 := fun o1 o2 => Lib.cell?_alloc_some o2 (Lib.cell?_alloc_some o1 c1)
        have x2 := fun ob => Lib.cell?_alloc_some ob c2
        have y2 := fun o1 o2 => Lib.cell?_alloc_some o2 (Lib.cell?_alloc_some o1 c2)
        have x3 := fun ob => Lib.cell?_alloc_some ob c3
        have y3 := fun o1 o2 => Lib.cell?_alloc_some o2 (Lib.cell?_alloc_some o1 c3)
        have x4 := fun ob => Lib.cell?_alloc_some ob d0
        have y4 := fun o1 o2 => Lib.cell?_alloc_some o2 (Lib.cell?_alloc_some o1 d0)
        have x5 := fun ob => Lib.cell?_alloc_some ob d1
        have y5 := fun o1 o2 => Lib.cell?_alloc_some o2 (Lib.cell?_alloc_some o1 d1)
        have x6 := fun ob => Lib.cell?_alloc_some ob d2
        have y6 := fun o1 o2 => Lib.cell?_alloc_some o2 (Lib.cell?_alloc_some o1 d2)
        have x7 := fun ob => Lib.cell?_alloc_some ob d3
        have y7 := fun o1 o2 => Lib.cell?_alloc_some o2 (Lib.cell?_alloc_some o1 d3)
        clear HX HY HL1 HL2 HN HB0 HQ HF HG HC0
        go_region
        all_goals (try go_wp2_with fail)
        all_goals go_meet
        · exact ⟨_, _, rfl, rfl, heap_n1, heap_m1, (((Below.refl _ _).alloc (Nat.le_refl _) _).alloc (by simp) _).drew⟩
        · exact ⟨_, _, rfl, rfl, heap_m1, heap_n1, (((Below.refl _ _).alloc (Nat.le_refl _) _).alloc (by simp) _).drew⟩
      case rest =>
        obtain ⟨g1, g2, rfl, rfl, hg1, hg2, hbc⟩ := hcut
        have HBC : Aside (Below wr.heap.size wr wc) := hbc
        have e0 : wc.cell? ⟨g1, 0, none⟩ = some (.int .u64 f.page) := by simp [World.cell?, hg1, Lf.cells]
        have e1 : wc.cell? ⟨g1, 1, none⟩ = some (.int .i64 f.kind) := by simp [World.cell?, hg1, Lf.cells]
        have e2 : wc.cell? ⟨g1, 2, none⟩ = some (.bool f.write) := by simp [World.cell?, hg1, Lf.cells]
        have e3 : wc.cell? ⟨g1, 3, none⟩ = some (.slice fa f.bytes.length fc) := by simp [World.cell?, hg1, Lf.cells]
        have f0 : wc.cell? ⟨g2, 0, none⟩ = some (.int .u64 g.page) := by simp [World.cell?, hg2, Lf.cells]
        have f1 : wc.cell? ⟨g2, 1, none⟩ = some (.int .i64 g.kind) := by simp [World.cell?, hg2, Lf.cells]
        have f2 : wc.cell? ⟨g2, 2, none⟩ = some (.bool g.write) := by simp [World.cell?, hg2, Lf.cells]
        have f3 : wc.cell? ⟨g2, 3, none⟩ = some (.slice ga g.bytes.length gc) := by simp [World.cell?, hg2, Lf.cells]
        have hbB : Below B wr wc := hbc.mono (Nat.le_trans hBw HB.out.size)
        have kf := conv_bytes HF.out rfl (by rw [(HL1.out f (List.mem_of_getElem? HS.out)).1]; omega) wc hbB
        have kg := conv_bytes HG.out rfl (by rw [(HL2.out g (List.mem_of_getElem? HT.out)).1]; omega) wc hbB
        have HSE : Aside (f.bytes = g.bytes → strOfNums f.bytes = strOfNums g.bytes) := fun h => by rw [h]
        have HST : Aside ((strOfNums f.bytes).toList = (strOfNums g.bytes).toList → f.bytes = g.bytes) := strOfNums_inj (HL1.out f (List.mem_of_getElem? HS.out)).2 (HL2.out g (List.mem_of_getElem? HT.out)).2
        have HNO : Aside (f ≠ g → decide (l = m) = false) := fun h => by
          refine decide_eq_false fun e => h ?_
          have := HS.out
          rw [e, HT.out] at this
          simpa using this.symm
        have HYE : Aside (f = g → ∀ j, j < k + 1 → l[j]? = m[j]?) := fun h j hj => by
          by_cases hjk : j < k
          · exact HQ.out j hjk
          · have : j = k := by omega
            subst this
            rw [HS.out, HT.out, h]
        have HBE : Aside (Below (w.heap.size + 2) ((w.alloc (.cells #[.bool on1, .int .u64 root1, .int .i64 asid1, .slice (some ⟨b, o, none⟩) n c] 29)).alloc (.cells #[.bool on1, .int .u64 root1, .int .i64 asid1, .slice (some ⟨b', o', none⟩) n d] 29)) wc) := HB0.out.trans (hbc.mono hsz)
        clear hg1 hg2 hbc hbB c0 c1 c2 c3 d0 d1 d2 d3 p3 q3 HC0 HF HG
        generalize strOfNums f.bytes = sf at *
        generalize strOfNums g.bytes = sg at *
        have HBR : Aside (Below w.heap.size w wc) := HB.out.trans (HBC.out.mono HB.out.size)
        go_wp2_with fail
        · have hne : (!sf.toList == sg.toList) = true := by assumption
          have hfg : f ≠ g := fun h => by
            have := HSE.out (by rw [h])
            rw [this] at hne
            simp at hne
          go_ret
          rw [HNO.out hfg]
          exact ⟨rfl, HBR.out⟩
        · have hp : f.page = g.page := by assumption
          have hk2 : f.kind = g.kind := by assumption
          have hw2 : f.write = g.write := by assumption
          have hse : (!sf.toList == sg.toList) = false := by assumption
          have hb2 : f.bytes = g.bytes := HST.out (by simpa using hse)
          have hfg : f = g := by
            cases f; cases g
            simp only at hp hk2 hw2 hb2
            subst hp hk2 hw2 hb2
            rfl
          go_roundw
          case rel => exact ⟨k + 1, by omega, by go_num, HBE.out, HYE.out hfg⟩
          case measure => simp [RowKit.intOf]; omega
        · have hne : ¬ f.write = g.write := by assumption
          have hfg : f ≠ g := fun h => hne (by rw [h])
          go_ret
          rw [HNO.out hfg]
          exact ⟨rfl, HBR.out⟩
        · have hne : ¬ f.kind = g.kind := by assumption
          have hfg : f ≠ g := fun h => hne (by rw [h])
          go_ret
          rw [HNO.out hfg]
          exact ⟨rfl, HBR.out⟩
        · have hne : ¬ f.page = g.page := by assumption
          have hfg : f ≠ g := fun h => hne (by rw [h])
          go_ret
          rw [HNO.out hfg]
          exact ⟨rfl, HBR.out⟩
    · have hge : n ≤ k := by omega
      have HE : Aside (decide (l = m) = true) := by
        refine decide_eq_true (List.ext_getElem? fun i => ?_)
        by_cases h : i < k
        · exact HQ.out i h
        · have := HN.out
          rw [List.getElem?_eq_none (by omega), List.getElem?_eq_none (by omega)]
      go_wp2_with fail
      go_ret
      rw [HE.out]
      exact ⟨rfl, HB.out⟩
end Go.Proofs.Ytdlnipimljpmgaa
