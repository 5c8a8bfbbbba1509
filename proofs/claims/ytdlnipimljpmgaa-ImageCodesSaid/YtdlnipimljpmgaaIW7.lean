/- image.Encode. -/
import Derived.Test.YtdlnipimljpmgaaIW2
import Derived.Test.YtdlnipimljpmgaaIC
import Derived.Test.YtdlnipimljpmgaaIW11
import Derived.Test.YtdlnipimljpmgaaIW8
import Derived.Deep.AppendLies
import Derived.Deep.RegionHeld3
import Derived.Deep.Cut
import Derived.Deep.CutBlock
import Derived.BigRegion
import Derived.Deep.RegionLaw
import Derived.Deep.RegionLawGrows
import Derived.Deep.AppendLies
import Derived.Lib.SmallJoins
set_option linter.unusedVariables false
set_option linter.unusedSimpArgs false
set_option linter.unusedSectionVars false
set_option linter.unnecessarySimpa false
namespace Go.Proofs.Ytdlnipimljpmgaa
open Go Go.RowKit Go.Im Go.Lib

def head6 (on : Bool) (asid : Int) : List Int := [68, 77, 73, 49, one on, asid % 256]

theorem put8 {w : World} {base n c : Nat} {va : Option Addr} {xs : List Value} (v : Int) (h0 : 0 ≤ v) (h1 : v < 18446744073709551616) (hn : n ≤ 100000000) (hbase : base ≤ w.heap.size) (hown : w.ownsRow base 5 1 (.slice va n c) n xs) :
    Calls Try.prog 25 #[.slice va n c, .int .i64 8, .int .u64 v] w fun e w' => ∃ va' vc', e = .returned (.slice va' (n + 8) vc') ∧ w'.ownsRow base 5 1 (.slice va' (n + 8) vc') (n + 8) (xs ++ (leB 8 v).map (Value.int .u8)) ∧ Below base w w' :=
  (put_calls v 8 (by omega) h0 h1 hn hbase hown).mono fun e w' ⟨v', he, ho, hb⟩ => by
    obtain ⟨a, c, rfl⟩ := slice_form0 ho
    exact ⟨a, c, he, ho, hb⟩
theorem put4 {w : World} {base n c : Nat} {va : Option Addr} {xs : List Value} (v : Int) (h0 : 0 ≤ v) (h1 : v < 18446744073709551616) (hn : n ≤ 100000000) (hbase : base ≤ w.heap.size) (hown : w.ownsRow base 5 1 (.slice va n c) n xs) :
    Calls Try.prog 25 #[.slice va n c, .int .i64 4, .int .u64 v] w fun e w' => ∃ va' vc', e = .returned (.slice va' (n + 4) vc') ∧ w'.ownsRow base 5 1 (.slice va' (n + 4) vc') (n + 4) (xs ++ (leB 4 v).map (Value.int .u8)) ∧ Below base w w' :=
  (put_calls v 4 (by omega) h0 h1 hn hbase hown).mono fun e w' ⟨v', he, ho, hb⟩ => by
    obtain ⟨a, c, rfl⟩ := slice_form0 ho
    exact ⟨a, c, he, ho, hb⟩
theorem put2 {w : World} {base n c : Nat} {va : Option Addr} {xs : List Value} (v : Int) (h0 : 0 ≤ v) (h1 : v < 18446744073709551616) (hn : n ≤ 100000000) (hbase : base ≤ w.heap.size) (hown : w.ownsRow base 5 1 (.slice va n c) n xs) :
    Calls Try.prog 25 #[.slice va n c, .int .i64 2, .int .u64 v] w fun e w' => ∃ va' vc', e = .returned (.slice va' (n + 2) vc') ∧ w'.ownsRow base 5 1 (.slice va' (n + 2) vc') (n + 2) (xs ++ (leB 2 v).map (Value.int .u8)) ∧ Below base w w' :=
  (put_calls v 2 (by omega) h0 h1 hn hbase hown).mono fun e w' ⟨v', he, ho, hb⟩ => by
    obtain ⟨a, c, rfl⟩ := slice_form0 ho
    exact ⟨a, c, he, ho, hb⟩

theorem head_row {on : Bool} {asid : Int} {w' : World} {b base : Nat} {v : Value} (h : w'.ownsRow b 5 1 v 6 ([Value.int .u8 68, .int .u8 77, .int .u8 73, .int .u8 49] ++ [.int .u8 (IntKind.u8.wrap (one on)), .int .u8 (IntKind.u8.wrap asid)])) (hb : base ≤ b) :
    w'.ownsRow base 5 1 v 6 ((head6 on asid).map (Value.int .u8)) := by
  have e1 : IntKind.u8.wrap (one on) = one on := by cases on <;> decide
  have e2 : IntKind.u8.wrap asid = asid % 256 := by rw [IntKind.wrap_u8]
  rw [e1, e2] at h
  exact Joins.ownsRow_le h hb

theorem enc_more {l : List Lf} {k : Nat} {f : Lf} (on : Bool) (root asid : Int) (hs : l[k]? = some f) :
    ((((encHead ⟨on, root, asid, l⟩ ++ (l.take k).flatMap encLeaf).map (Value.int .u8) ++ (leB 4 f.page).map (Value.int .u8)) ++ [.int .u8 (IntKind.u8.wrap f.kind), .int .u8 (IntKind.u8.wrap (one f.write))]) ++ (leB 2 ((used f.bytes : Nat) : Int)).map (Value.int .u8)) ++ (f.bytes.take (used f.bytes)).map (Value.int .u8) =
      (encHead ⟨on, root, asid, l⟩ ++ (l.take (k + 1)).flatMap encLeaf).map (Value.int .u8) := by
  have e1 : IntKind.u8.wrap (one f.write) = one f.write := by cases f.write <;> decide
  have e2 : IntKind.u8.wrap f.kind = f.kind % 256 := by rw [IntKind.wrap_u8]
  rw [List.take_add_one, hs, e1, e2]
  simp [encLeaf]

/-- One operation under a name. -/
abbrev conv44 : Oper := { dst := some 15, op := Op.convert 32 32 (Operand.tmp 14), type := 32, pos := "form.go:44", after := #[{ on := 0, ground := Ground.data }], guard := none }

set_option maxRecDepth 100000 in
set_option maxHeartbeats 40000000 in
theorem Encode_any (on : Bool) (root asid : Int) (x : Option Addr) (n c B : Nat) (l : List Lf) (fs : List Value) (w : World) (hn : l.length = n) (hbig : n ≤ 1024) (hBw : B ≤ w.heap.size) (hr0 : 0 ≤ root) (hr1 : root < 18446744073709551616)
    (hx : LeavesF B w (.slice x n c) l fs) (hl0 : ∀ f ∈ l, 0 ≤ f.page ∧ f.page < 18446744073709551616) (hlen : ∀ f ∈ l, f.bytes.length = 4096) (hcap : ∀ v ∈ fs, CapOk v) (hck : chk ⟨on, root, asid, l⟩ = 0) :
    Calls Try.prog 8 #[.agg #[.bool on, .int .u64 root, .int .i64 asid, .slice x n c]] w fun e w' => ∃ v', e = .returned (.tuple #[v', .int .i64 0]) ∧ Below w.heap.size w w' ∧ w'.ownsRow w.heap.size 5 1 v' (enc ⟨on, root, asid, l⟩).length ((enc ⟨on, root, asid, l⟩).map (Value.int .u8)) := by
  have HX : Aside (LeavesF B w (.slice x n c) l fs) := hx
  have HL0 : Aside (∀ f ∈ l, 0 ≤ f.page ∧ f.page < 18446744073709551616) := hl0
  have HLN : Aside (∀ f ∈ l, f.bytes.length = 4096) := hlen
  have HNL : Aside (l.length = n) := hn
  have HCAP : Aside (∀ v ∈ fs, CapOk v) := hcap
  have HC : Aside (∀ w1, Below w.heap.size w w1 → Calls Try.prog 13 #[.agg #[.bool on, .int .u64 root, .int .i64 asid, .slice x n c]] w1 fun e w' => e = .returned (.int .i64 0) ∧ Below w1.heap.size w1 w') := fun w1 h1 => by
    have := Check_any on root asid x n c B l fs w1 hn (by omega) (Nat.le_trans hBw h1.size) hr0 (hx.below (h1.mono hBw)) (fun f hf => by rw [hlen f hf]; omega)
    rw [hck] at this
    exact this
  clear hx hl0 hlen hck hn hcap
  obtain ⟨i0, hi0, hz⟩ := Option.map_eq_some_iff.1 info5
  simp only [Prod.mk.injEq] at hz
  obtain ⟨hz0, hz1, hz2⟩ := hz
  go_enter Try.func8, Try.ntmps8
  go_wp2_with fail
  refine (HC.out _ ((Below.refl _ _).alloc (Nat.le_refl _) _)).mono ?_
  rintro e w1 ⟨rfl, hw1⟩
  have q0 : w1.cell? ⟨w.heap.size, 0, none⟩ = some (.bool on) := by rw [hw1.cell (by simp)]; exact cell_new0 () rfl
  have q1 : w1.cell? ⟨w.heap.size, 1, none⟩ = some (.int .u64 root) := by rw [hw1.cell (by simp)]; exact cell_new0 () rfl
  have q2 : w1.cell? ⟨w.heap.size, 2, none⟩ = some (.int .i64 asid) := by rw [hw1.cell (by simp)]; exact cell_new0 () rfl
  have q3 : w1.cell? ⟨w.heap.size, 3, none⟩ = some (.slice x n c) := by rw [hw1.cell (by simp)]; exact cell_new0 () rfl
  have HB1 : Aside (Below w.heap.size w w1) := ((Below.refl _ _).alloc (Nat.le_refl _) _).trans (hw1.mono (by simp))
  have hs1 : w.heap.size + 1 ≤ w1.heap.size := by have := hw1.size; simp at this; exact this
  clear hw1
  go_upto_region 4 with fail
  go_cut [5] from 9 (fun v wc => ∃ va vc, v = .slice va 6 vc ∧ wc.ownsRow (w.heap.size + 1) 5 1 (.slice va 6 vc) 6 ((head6 on asid).map (Value.int .u8)) ∧ Below (w.heap.size + 1) w1 wc)
  case first =>
    have r0 := fun ob => Lib.cell?_alloc_some ob q0
    have r2 := fun ob => Lib.cell?_alloc_some ob q2
    have s0 := fun o1 o2 => Lib.cell?_alloc_some o2 (Lib.cell?_alloc_some o1 q0)
    have s2 := fun o1 o2 => Lib.cell?_alloc_some o2 (Lib.cell?_alloc_some o1 q2)
    have kc1 := fun (w : World) (C : Array Value) (n c : Nat) => (show Sem.run Try.prog (convert 32 32 (.slice (some ⟨w.heap.size, 0, none⟩) n c)) (w.alloc (.cells C 5)).drew = .ok (.slice (some ⟨w.heap.size, 0, none⟩) n c) (w.alloc (.cells C 5 (C.size, C.size + 1))).drew from run_convert_bytes_const (P := Try.prog) w.drew 32 5 C n c Try.underlying32 Try.underlying5)
    have kc2 : ∀ (w : World) (D : Obj) (C : Array Value) (n c : Nat), Sem.run Try.prog (convert 32 32 (.slice (some ⟨w.heap.size + 1, 0, none⟩) n c)) ((w.alloc D).alloc (.cells C 5)).drew = .ok (.slice (some ⟨w.heap.size + 1, 0, none⟩) n c) ((w.alloc D).alloc (.cells C 5 (C.size, C.size + 1))).drew := fun w D C n c => by
      have := kc1 (w.alloc D) C n c
      simpa using this
    have kc3 : ∀ (w : World) (D : Obj) (C : Array Value) (n c : Nat), Sem.run Try.prog (convert 32 32 (.slice (some ⟨w.heap.size, 0, none⟩) n c)) ((w.alloc (.cells C 5)).alloc D).drew = .ok (.slice (some ⟨w.heap.size, 0, none⟩) n c) ((w.alloc (.cells C 5 (C.size, C.size + 1))).alloc D).drew := fun w D C n c => conv_first w D C n c
    clear HX HL0 HLN HNL HC HB1 q1 q3
    rw [show ({ dst := some 15, op := Op.convert 32 32 (Operand.tmp 14), type := 32, pos := "form.go:44", after := #[{ on := 0, ground := Ground.data }], guard := none } : Oper) = conv44 from rfl]
    go_region_held3 (fun w' => w'.cell? ⟨w.heap.size, 0, none⟩ = some (.bool on) ∧ w'.cell? ⟨w.heap.size, 2, none⟩ = some (.int .i64 asid)) (go_keep) (first
      | (go_simp; go_at_call 24; refine (one_calls _ _).mono ?_; rintro e w' ⟨rfl, rfl⟩)
      | (refine step_append_grows rfl (.tmp 15) (.tmp 23) 32 rfl 5 i0 (.int .u8 0) 1 1 Try.underlying32 hi0 hz0 hz1 hz2 rfl (by decide) (some ⟨w1.heap.size, 0, none⟩) 4 4 [.int .u8 68, .int .u8 77, .int .u8 73, .int .u8 49] rfl (by intro h; cases h) rfl (fun b hb => by cases hb; exact two1 _ rfl) ⟨w1.heap.size + 1, 0, none⟩ 2 2 [.int .u8 (IntKind.u8.wrap (one on)), .int .u8 (IntKind.u8.wrap asid)] rfl rfl (two2 _ rfl) two_one (by decide) (by decide) (by decide) ?_; intro v' w' hown hgrow; obtain ⟨va', vc', rfl⟩ := slice_form0 hown; have hkk := (hgrow.block w.heap.size (by simp; omega) (by intro h; cases h)).trans (show ((w1.alloc _).alloc _).heap[w.heap.size]? = w1.heap[w.heap.size]? from (Below.heap_alloc _ _ _ (by simp; omega)).trans (Below.heap_alloc _ _ _ (by omega))); have k0 := (World.cell?_of_block (w := w1) (a := ⟨w.heap.size, 0, none⟩) hkk).trans q0; have k2 := (World.cell?_of_block (w := w1) (a := ⟨w.heap.size, 2, none⟩) hkk).trans q2; clear hkk)
      | (refine step_append_grows rfl (.tmp 15) (.tmp 23) 32 rfl 5 i0 (.int .u8 0) 1 1 Try.underlying32 hi0 hz0 hz1 hz2 rfl (by decide) (some ⟨w1.heap.size + 1, 0, none⟩) 4 4 [.int .u8 68, .int .u8 77, .int .u8 73, .int .u8 49] rfl (by intro h; cases h) rfl (fun b hb => by cases hb; exact two2 _ rfl) ⟨w1.heap.size, 0, none⟩ 2 2 [.int .u8 (IntKind.u8.wrap (one on)), .int .u8 (IntKind.u8.wrap asid)] rfl rfl (two1 _ rfl) two_one (by decide) (by decide) (by decide) ?_; intro v' w' hown hgrow; obtain ⟨va', vc', rfl⟩ := slice_form0 hown; have hkk := (hgrow.block w.heap.size (by simp; omega) (by intro h; cases h)).trans (show ((w1.alloc _).alloc _).heap[w.heap.size]? = w1.heap[w.heap.size]? from (Below.heap_alloc _ _ _ (by simp; omega)).trans (Below.heap_alloc _ _ _ (by omega))); have k0 := (World.cell?_of_block (w := w1) (a := ⟨w.heap.size, 0, none⟩) hkk).trans q0; have k2 := (World.cell?_of_block (w := w1) (a := ⟨w.heap.size, 2, none⟩) hkk).trans q2; clear hkk))
    all_goals (try go_wp2_with fail)
    all_goals go_meet
    all_goals exact ⟨_, _, rfl, head_row hown (by simp; omega), ((((Below.refl _ _).alloc hs1 _).alloc (by simp; omega) _).drew).grown hgrow (by simp; omega) (by intro j hj; cases hj)⟩
  case rest =>
    obtain ⟨va, vc, rfl, hrow, hbl⟩ := hcut
    have HR : Aside (wc.ownsRow (w.heap.size + 1) 5 1 (.slice va 6 vc) 6 ((head6 on asid).map (Value.int .u8))) := hrow
    have HB2 : Aside (Below (w.heap.size + 1) w1 wc) := hbl
    have p1 : wc.cell? ⟨w.heap.size, 1, none⟩ = some (.int .u64 root) := by rw [hbl.cell (by simp)]; exact q1
    have p3 : wc.cell? ⟨w.heap.size, 3, none⟩ = some (.slice x n c) := by rw [hbl.cell (by simp)]; exact q3
    have hs2 : w.heap.size + 1 ≤ wc.heap.size := Nat.le_trans hs1 hbl.size
    clear hrow hbl q0 q1 q2
    have hnw : IntKind.u64.wrap (n : Int) = (n : Int) := by rw [IntKind.wrap_u64]; omega
    have HEQ : Aside ((((head6 on asid).map (Value.int .u8) ++ (leB 8 root).map (Value.int .u8)) ++ (leB 4 (n : Int)).map (Value.int .u8)) = (encHead ⟨on, root, asid, l⟩).map (Value.int .u8)) := by
      show _ = _
      unfold encHead head6
      rw [← HNL.out]
      simp
    go_upto_region 5 with fail
    go_cut [5] from 9 (fun v wx => ∃ va vc, v = .slice va 18 vc ∧ wx.ownsRow (w.heap.size + 1) 5 1 (.slice va 18 vc) 18 ((encHead ⟨on, root, asid, l⟩).map (Value.int .u8)) ∧ Below (w.heap.size + 1) w1 wx)
    case first =>
      have HP8 : Aside (Calls Try.prog 25 #[.slice va 6 vc, .int .i64 8, .int .u64 root] wc.drew fun e w' => ∃ va' vc', e = .returned (.slice va' 14 vc') ∧ w'.ownsRow (w.heap.size + 1) 5 1 (.slice va' 14 vc') 14 ((head6 on asid).map (Value.int .u8) ++ (leB 8 root).map (Value.int .u8)) ∧ Below (w.heap.size + 1) wc.drew w') := put8 (n := 6) root hr0 hr1 (by omega) hs2 HR.out.drew
      clear HX HL0 HLN HNL HC HB1 HR
      go_region_held3 (fun w' => w'.cell? ⟨w.heap.size, 1, none⟩ = some (.int .u64 root) ∧ w'.cell? ⟨w.heap.size, 3, none⟩ = some (.slice x n c)) (go_keep) (first
        | (have hfirst := HO5; clear hfirst; go_simp; go_at_call 25; refine (put4 (n := 14) (n : Int) (by omega) (by omega) (by omega) hs5 HO5.out).mono ?_; rintro e w6 ⟨a6, c6, rfl, hown6, hb6⟩; have HO6 : Aside (w6.ownsRow (w.heap.size + 1) 5 1 (.slice a6 18 c6) 18 (((head6 on asid).map (Value.int .u8) ++ (leB 8 root).map (Value.int .u8)) ++ (leB 4 (n : Int)).map (Value.int .u8))) := hown6; have HB6 : Aside (Below (w.heap.size + 1) w5 w6) := hb6; have p16 : w6.cell? ⟨w.heap.size, 1, none⟩ = some (.int .u64 root) := (hb6.cell (by simp)).trans p15; have p36 : w6.cell? ⟨w.heap.size, 3, none⟩ = some (.slice x n c) := (hb6.cell (by simp)).trans p35; clear hown6 hb6)
        | (go_simp; go_at_call 25; refine HP8.out.mono ?_; rintro e w5 ⟨a5, c5, rfl, hown5, hb5⟩; have HO5 : Aside (w5.ownsRow (w.heap.size + 1) 5 1 (.slice a5 14 c5) 14 ((head6 on asid).map (Value.int .u8) ++ (leB 8 root).map (Value.int .u8))) := hown5; have HB5 : Aside (Below (w.heap.size + 1) wc w5) := (Below.refl _ _).drew.trans hb5; have hs5 : w.heap.size + 1 ≤ w5.heap.size := Nat.le_trans hs2 hb5.size; have p15 : w5.cell? ⟨w.heap.size, 1, none⟩ = some (.int .u64 root) := (hb5.cell (by simp)).trans p1; have p35 : w5.cell? ⟨w.heap.size, 3, none⟩ = some (.slice x n c) := (hb5.cell (by simp)).trans p3; clear hown5 hb5))
      all_goals (try go_wp2_with fail)
      all_goals go_meet
      all_goals exact ⟨_, _, rfl, by rw [← HEQ.out]; exact HO6.out, HB2.out.trans (HB5.out.trans HB6.out)⟩
    case rest =>
      obtain ⟨vb, vd, rfl, hrow, hbl⟩ := hcut
      have HRW : Aside (wc.ownsRow (w.heap.size + 1) 5 1 (.slice vb 18 vd) 18 ((encHead ⟨on, root, asid, l⟩).map (Value.int .u8))) := hrow
      have HB5 : Aside (Below (w.heap.size + 1) w1 wc) := hbl
      have HH18 : Aside ((encHead ⟨on, root, asid, l⟩).length = 18) := by show _ = _; simp [encHead, leB_length]
      have p3c : wc.cell? ⟨w.heap.size, 3, none⟩ = some (.slice x n c) := (hbl.cell (by simp)).trans q3
      clear hrow hbl
      go_wp2_with fail
      go_loopw [5, 37] (fun v i wr => ∃ k : Nat, k ≤ n ∧ i = .int .i64 k ∧ ∃ (va : Option Addr) (vc N : Nat), v = .slice va N vc ∧ N ≤ 18 + k * 4104 ∧ wr.ownsRow (w.heap.size + 1) 5 1 (.slice va N vc) N ((encHead ⟨on, root, asid, l⟩ ++ (l.take k).flatMap encLeaf).map (Value.int .u8)) ∧ Below (w.heap.size + 1) w1 wr)
        (fun _ i _ => n - (RowKit.intOf i).toNat)
      case atStart => exact ⟨0, Nat.zero_le _, rfl, vb, vd, 18, rfl, by omega, by simpa using HRW.out, HB5.out⟩
      case round =>
        obtain ⟨k, hk, rfl, va, vc, N, rfl, hN, hrow, hbl⟩ := hrel
        have HR2 : Aside (wr.ownsRow (w.heap.size + 1) 5 1 (.slice va N vc) N ((encHead ⟨on, root, asid, l⟩ ++ (l.take k).flatMap encLeaf).map (Value.int .u8))) := hrow
        have HB6 : Aside (Below (w.heap.size + 1) w1 wr) := hbl
        have HBW : Aside (Below w.heap.size w wr) := HB1.out.trans (hbl.mono (Nat.le_succ _))
        have hsr : w.heap.size + 1 ≤ wr.heap.size := Nat.le_trans hs1 hbl.size
        clear hrow hbl
        by_cases hlt : k < n
        · obtain ⟨b, o, f, fa, fc, rfl, hB, hs, hat, hbs, hf⟩ := LeavesF.at2 HX.out HNL.out (HBW.out.mono hBw) hlt
          obtain ⟨c0, c1, c2, c3⟩ := hat
          have hi : (k : Int) < (n : Int) := by omega
          have HF : Aside (Bs B wr (.slice fa f.bytes.length fc) f.bytes) := hbs
          have HFL : Aside (f.bytes.length = 4096) := HLN.out f (List.mem_of_getElem? hs)
          have HPG : Aside (0 ≤ f.page ∧ f.page < 18446744073709551616) := HL0.out f (List.mem_of_getElem? hs)
          have HS : Aside (l[k]? = some f) := hs
          have HUS : Aside (∀ w2, Below wr.heap.size wr w2 → Calls Try.prog 26 #[.slice fa f.bytes.length fc] w2 fun e w' => e = .returned (.int .i64 (used f.bytes)) ∧ Below w2.heap.size w2 w') := fun w2 h2 => used_calls (by rw [HFL.out]; omega) (HF.out.below (h2.mono (Nat.le_trans hBw HBW.out.size)))
          have HUL : Aside (used f.bytes ≤ 4096) := by (have h1 := used_le f.bytes; have h2 := HFL.out; show used f.bytes ≤ 4096; omega)
          have HCF : Aside (CapOk (.slice fa f.bytes.length fc)) := HCAP.out _ (List.mem_of_getElem? hf)
          clear hs hbs hf
          go_wp2_with fail
          refine (HUS.out _ ((Below.refl _ _).alloc (Nat.le_refl _) _)).mono ?_
          rintro e w5 ⟨rfl, hw5⟩
          have y0 : w5.cell? ⟨wr.heap.size, 0, none⟩ = some (.int .u64 f.page) := by rw [hw5.cell (by simp)]; exact cell_new0 () rfl
          have y1 : w5.cell? ⟨wr.heap.size, 1, none⟩ = some (.int .i64 f.kind) := by rw [hw5.cell (by simp)]; exact cell_new0 () rfl
          have y2 : w5.cell? ⟨wr.heap.size, 2, none⟩ = some (.bool f.write) := by rw [hw5.cell (by simp)]; exact cell_new0 () rfl
          have y3 : w5.cell? ⟨wr.heap.size, 3, none⟩ = some (.slice fa f.bytes.length fc) := by rw [hw5.cell (by simp)]; exact cell_new0 () rfl
          have HB7 : Aside (Below wr.heap.size wr w5) := ((Below.refl _ _).alloc (Nat.le_refl _) _).trans (hw5.mono (by simp))
          clear hw5 c0 c1 c2 c3
          go_wp2_with fail
          refine (put4g (base := w.heap.size + 1) (n := N) f.page HPG.out.1 HPG.out.2 (by omega) (by have := HB7.out.size; omega) (ownsRow_below HR2.out HB7.out)).mono ?_
          rintro e w6 ⟨a6, c6, rfl, hown6, hgr6⟩
          have hlt0 : wr.heap.size < w5.heap.size := World.block_lt_of_cell? w5 _ y0
          have hfar0 : (Value.slice va N vc).ownBlock ≠ some wr.heap.size := fun h => by have := (HR2.out.lt _ h).2; omega
          obtain ⟨hk6, hfar6, hlt6⟩ := hgr6.far hlt0 hfar0
          have HO6 : Aside (w6.ownsRow (w.heap.size + 1) 5 1 (.slice a6 (N + 4) c6) (N + 4) ((encHead ⟨on, root, asid, l⟩ ++ (l.take k).flatMap encLeaf).map (Value.int .u8) ++ (leB 4 f.page).map (Value.int .u8))) := hown6
          have HG6 : Aside (Grew w5 (.slice va N vc) w6 (.slice a6 (N + 4) c6)) := hgr6
          have z1 : w6.cell? ⟨wr.heap.size, 1, none⟩ = some (.int .i64 f.kind) := (World.cell?_of_block hk6).trans y1
          have z2 : w6.cell? ⟨wr.heap.size, 2, none⟩ = some (.bool f.write) := (World.cell?_of_block hk6).trans y2
          have z3 : w6.cell? ⟨wr.heap.size, 3, none⟩ = some (.slice fa f.bytes.length fc) := (World.cell?_of_block hk6).trans y3
          have HF6 : Aside ((Value.slice a6 (N + 4) c6).ownBlock ≠ some wr.heap.size) := hfar6
          clear hown6 hgr6 hk6 hfar6 hfar0 y0 y1 y2 y3
          have hnu : IntKind.u64.wrap ((used f.bytes : Nat) : Int) = ((used f.bytes : Nat) : Int) := by rw [IntKind.wrap_u64]; have := HUL.out; omega
          have hs6 : w.heap.size + 1 ≤ w6.heap.size := by have := HB7.out.size; have := HG6.out.1.size; omega
          go_upto_region 11 with fail
          go_region_held3 (fun w' => w'.cell? ⟨wr.heap.size, 1, none⟩ = some (.int .i64 f.kind) ∧ w'.cell? ⟨wr.heap.size, 2, none⟩ = some (.bool f.write) ∧ w'.cell? ⟨wr.heap.size, 3, none⟩ = some (.slice fa f.bytes.length fc)) (go_keep) (first
            | (have hfirst := HO7; clear hfirst; go_simp; go_at_call 25; refine (put2g (n := N + 4 + 2) ((used f.bytes : Nat) : Int) (by omega) (by have := HUL.out; omega) (by omega) hs7 HO7.out).mono ?_; rintro e w8 ⟨a8, c8, rfl, hown8, hgr8⟩; have HO8 : Aside (w8.ownsRow (w.heap.size + 1) 5 1 (.slice a8 (N + 4 + 2 + 2) c8) (N + 4 + 2 + 2) ((((encHead ⟨on, root, asid, l⟩ ++ (l.take k).flatMap encLeaf).map (Value.int .u8) ++ (leB 4 f.page).map (Value.int .u8)) ++ [.int .u8 (IntKind.u8.wrap f.kind), .int .u8 (IntKind.u8.wrap (one f.write))]) ++ (leB 2 ((used f.bytes : Nat) : Int)).map (Value.int .u8))) := hown8; have HG8 : Aside (Grew w7 (.slice (some ⟨g7, 0, none⟩) (N + 4 + 2) c7) w8 (.slice a8 (N + 4 + 2 + 2) c8)) := hgr8; obtain ⟨hk8, hfar8, hlt8⟩ := hgr8.far HF7.out.2 HF7.out.1; have s1 := (World.cell?_of_block (a := ⟨wr.heap.size, 1, none⟩) hk8).trans t1; have s2 := (World.cell?_of_block (a := ⟨wr.heap.size, 2, none⟩) hk8).trans t2; have s3 := (World.cell?_of_block (a := ⟨wr.heap.size, 3, none⟩) hk8).trans t3; have HF8 : Aside ((Value.slice a8 (N + 4 + 2 + 2) c8).ownBlock ≠ some wr.heap.size ∧ wr.heap.size < w8.heap.size) := ⟨hfar8, hlt8⟩; clear hown8 hgr8 hk8 hfar8 hlt8)
            | (refine step_append_lies _ rfl (.tmp 48) (.tmp 56) 32 rfl (w.heap.size + 1) 5 i0 _ 1 1 Try.underlying32 hi0 hz0 hz1 hz2 rfl (by decide) (.slice a6 (N + 4) c6) (N + 4) _ rfl (HO6.out.drew.alloc _) ⟨w6.heap.size, 0, none⟩ 2 2 [.int .u8 (IntKind.u8.wrap f.kind), .int .u8 (IntKind.u8.wrap (one f.write))] rfl rfl (cells_newL) two_one (by decide) (by unfold maxLen; omega) (by omega) (by simp; omega) _ rfl ?_; intro g7 c7 w7 hown7 hgrow7 hat7 hlt7; have HO7 : Aside (w7.ownsRow (w.heap.size + 1) 5 1 (.slice (some ⟨g7, 0, none⟩) (N + 4 + 2) c7) (N + 4 + 2) (((encHead ⟨on, root, asid, l⟩ ++ (l.take k).flatMap encLeaf).map (Value.int .u8) ++ (leB 4 f.page).map (Value.int .u8)) ++ [.int .u8 (IntKind.u8.wrap f.kind), .int .u8 (IntKind.u8.wrap (one f.write))])) := hown7; have hgr7 : Grew w6 (.slice a6 (N + 4) c6) w7 (.slice (some ⟨g7, 0, none⟩) (N + 4 + 2) c7) := (Grew.refl w6 _).drew.app (fun g hg => (HO6.out.lt g hg).2) hgrow7 (by rcases hat7 with h | h; (· left; rw [h]; rfl); (· right; rw [h]; rfl)); have HG7 : Aside (Grew w6 (.slice a6 (N + 4) c6) w7 (.slice (some ⟨g7, 0, none⟩) (N + 4 + 2) c7)) := hgr7; obtain ⟨hk7, hfar7, hlt7'⟩ := hgr7.far hlt6 HF6.out; have t1 := (World.cell?_of_block (a := ⟨wr.heap.size, 1, none⟩) hk7).trans z1; have t2 := (World.cell?_of_block (a := ⟨wr.heap.size, 2, none⟩) hk7).trans z2; have t3 := (World.cell?_of_block (a := ⟨wr.heap.size, 3, none⟩) hk7).trans z3; have hs7 : w.heap.size + 1 ≤ w7.heap.size := Nat.le_trans hs6 hgr7.1.size; have HF7 : Aside ((Value.slice (some ⟨g7, 0, none⟩) (N + 4 + 2) c7).ownBlock ≠ some wr.heap.size ∧ wr.heap.size < w7.heap.size) := ⟨hfar7, hlt7'⟩; clear hown7 hgrow7 hat7 hlt7 hgr7 hk7 hfar7 hlt7')
            | (go_simp; go_at_call 24; refine (one_calls _ _).mono ?_; rintro e w' ⟨rfl, rfl⟩))
          obtain ⟨hb8, rfl⟩ : ∃ B8, B8 = Below (w.heap.size + 1) w1 w8 := ⟨_, rfl⟩
          have HB8 : Aside (Below (w.heap.size + 1) w1 w8) := by
            refine HB6.out.trans ((HB7.out.mono hsr).trans ((HG6.out.below (by omega) (fun g hg => ?_)).trans ((HG7.out.below (by omega) (fun g hg => (HO6.out.lt g hg).1)).trans (HG8.out.below (by omega) (fun g hg => (HO7.out.lt g hg).1)))))
            exact (HR2.out.lt g hg).1
          have HX8 : Aside (Bs B w8 (.slice fa f.bytes.length fc) f.bytes) := HF.out.below ((HB7.out.mono (Nat.le_trans hBw HBW.out.size)).trans (((HG6.out.below (by omega) (fun g hg => (HR2.out.lt g hg).1)).trans ((HG7.out.below (by omega) (fun g hg => (HO6.out.lt g hg).1)).trans (HG8.out.below (by omega) (fun g hg => (HO7.out.lt g hg).1)))).mono (by omega)))
          obtain ⟨b9, o9, u9', rfl, hB9, -, -⟩ := HX8.out.at (j := 0) (by have := HFL.out; omega)
          have HNEW : Aside (∀ j u, ((f.bytes.take (used f.bytes)).map (Value.int .u8))[j]? = some u → w8.cell? ((⟨b9, o9, none⟩ : Addr).add j) = some u) := by
            intro j u hj
            obtain ⟨a', cap', he, h3⟩ := HX8.out
            cases he
            rcases h3 with h3 | ⟨b', off', he, _, hc⟩
            · have := HFL.out; rw [h3] at this; simp at this
            · cases he
              rw [Addr.add_lit]
              apply hc
              rw [List.getElem?_map] at hj ⊢
              rw [List.getElem?_take] at hj
              split at hj
              · exact hj
              · simp at hj
          have HNLN : Aside (((f.bytes.take (used f.bytes)).map (Value.int .u8)).length = used f.bytes * 1) := by have := used_le f.bytes; show _ = _; simp; omega
          have hul : ((used f.bytes : Nat) : Int) ≤ ((fc : Nat) : Int) := by have h1 : f.bytes.length ≤ fc := HCF.out; have := used_le f.bytes; omega
          go_wp2_with (at_builtin; refine wpList_append_own_at _ rfl _ _ 32 rfl (w.heap.size + 1) 5 i0 _ 1 1 Try.underlying32 hi0 hz0 hz1 hz2 rfl (by decide) _ (N + 4 + 2 + 2) _ rfl HO8.out ⟨b9, o9, none⟩ (used f.bytes) _ ((f.bytes.take (used f.bytes)).map (Value.int .u8)) rfl HNLN.out HNEW.out (by intro u hu; rw [List.mem_map] at hu; obtain ⟨_, _, rfl⟩ := hu; rfl) (by have := HUL.out; unfold maxLen; omega) (by have := HUL.out; omega) (Nat.le_trans hs1 HB8.out.size) ?_; intro v' w9 hown' hgrow hnil hloc)
          go_roundw
          case rel =>
            obtain ⟨va', vc', rfl⟩ := slice_form0 hown'
            refine ⟨k + 1, by omega, by go_num, va', vc', N + 4 + 2 + 2 + used f.bytes, rfl, by have := HUL.out; omega, ?_, ?_⟩
            · rw [enc_more on root asid HS.out] at hown'
              exact hown'
            · exact HB8.out.grown hgrow (Nat.le_trans hs1 HB8.out.size) (fun g hg => (HO8.out.lt g hg).1)
          case measure => simp [RowKit.intOf]; omega
        · have hkn : k = n := by omega
          have HRN : Aside (wr.ownsRow (w.heap.size + 1) 5 1 (.slice va N vc) N ((enc ⟨on, root, asid, l⟩).map (Value.int .u8))) := by
            have := HR2.out
            rw [hkn, ← HNL.out, List.take_length] at this
            exact this
          have hi : ¬ ((k : Int) < (n : Int)) := by omega
          go_wp2_with fail
          refine bodyPost_ret (v := .tuple #[.slice va N vc, .int .i64 0]) (by simp [results, Try.results8, go_sem]) rfl ⟨_, rfl, HBW.out, ?_⟩
          have hN2 : (enc ⟨on, root, asid, l⟩).length = N := by have := HRN.out.1; simpa using this
          rw [hN2]
          exact Joins.ownsRow_le HRN.out (Nat.le_succ _)
end Go.Proofs.Ytdlnipimljpmgaa
