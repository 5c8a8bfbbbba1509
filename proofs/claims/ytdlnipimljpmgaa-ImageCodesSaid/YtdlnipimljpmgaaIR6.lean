/- The document's Encode. -/
import Derived.Test.YtdlnipimljpmgaaIR5b
import Derived.Test.YtdlnipimljpmgaaIW19
import Derived.Deep.RegionHeld3
import Derived.Deep.Cut
import Derived.BigRegion
set_option linter.unusedVariables false
set_option linter.unusedSimpArgs false
set_option linter.unusedSectionVars false
set_option linter.unnecessarySimpa false
namespace Go.Proofs.Ytdlnipimljpmgaa
open Go Go.RowKit Go.Im Go.Lib

theorem head_str (on : Bool) (root asid : Int) (l : List Lf) : ((((⟨#[68, 77, 73, 49]⟩ : ByteArray) ++ strOfNums [one on]) ++ strOfNums (leB 1 asid)) ++ strOfNums (leB 8 root)) ++ strOfNums (leB 4 (l.length : Int)) = strOfNums (encHead ⟨on, root, asid, l⟩) := by
  have e : (⟨#[68, 77, 73, 49]⟩ : ByteArray) = strOfNums [68, 77, 73, 49] := rfl
  rw [e, ← strOfNums_append, ← strOfNums_append, ← strOfNums_append, ← strOfNums_append]
  first | done | rfl | (congr 1; simp [encHead, leB])

theorem strCells_nums {l : List Int} (h : Byte l) : strCells (strOfNums l) = l.map (Value.int .u8) := by
  unfold strCells
  rw [strOfNums_data, List.map_map]
  refine List.map_congr_left fun x hx => ?_
  have := h x hx
  simp only [Function.comp, UInt8.toNat_ofNat']
  congr 1
  omega

theorem head_byte (m : Img) : Byte (encHead m) := by
  have ho : ∀ b, 0 ≤ one b ∧ one b < 256 := fun b => by cases b <;> decide
  intro x hx
  unfold encHead at hx
  simp only [List.mem_append, List.mem_cons, List.not_mem_nil, or_false] at hx
  rcases hx with (rfl | rfl | rfl | rfl) | (rfl | rfl) | hx | hx
  · omega
  · omega
  · omega
  · omega
  · exact ho _
  · omega
  · exact leB_byte _ _ x hx
  · exact leB_byte _ _ x hx

theorem mrow_str {w : World} {s : ByteArray} {l : List Int} {n base : Nat} (h : s = strOfNums l) (hb : Byte l) (hn : l.length = n) (hm : n ≤ maxLen) (hbase : base ≤ w.heap.size) :
    MRow ((w.alloc (.cells (bytesRow s (grownCap w n 0 5)) 5 ((bytesRow s (grownCap w n 0 5)).size, (bytesRow s (grownCap w n 0 5)).size + 1))).drew) base 5 (.slice (some ⟨w.heap.size, 0, none⟩) n (grownCap w n 0 5)) n (l.map (Value.int .u8)) := by
  subst h
  have hz : (strOfNums l).size = n := by rw [strOfNums_size, hn]
  have h := mrow_of_string w (strOfNums l) (by rw [hz]; exact hm)
  rw [hz, strCells_nums hb] at h
  obtain ⟨h1, g, cap, cur, fz, he, hg, rest⟩ := h
  exact ⟨h1, g, cap, cur, fz, he, Nat.le_trans hbase hg, rest⟩

theorem kinds {m : Img} (h : chk m = 0) : ∀ f ∈ m.leaves, 0 ≤ f.kind ∧ f.kind ≤ 255 := fun f hf => by
  have hw := ((chk_facts h).2.2 f hf).2.2
  unfold wrong at hw
  simp only [Bool.or_eq_false_iff, Bool.and_eq_false_iff, Bool.not_eq_false', beq_iff_eq] at hw
  omega

theorem Box.grown {w w' : World} {g : Nat} {row : Option Nat} {x0 x1 x2 x3 : Value} (h : Box w g x0 x1 x2 x3) (hg : w.grownBy w' row) (hne : some g ≠ row) : Box w' g x0 x1 x2 x3 := by
  obtain ⟨h0, h1, h2, h3, h4⟩ := h
  have k := hg.block g h0 hne
  exact ⟨Nat.lt_of_lt_of_le h0 hg.size, (World.cell?_of_block (a := ⟨g, 0, none⟩) k).trans h1, (World.cell?_of_block (a := ⟨g, 1, none⟩) k).trans h2, (World.cell?_of_block (a := ⟨g, 2, none⟩) k).trans h3, (World.cell?_of_block (a := ⟨g, 3, none⟩) k).trans h4⟩

theorem enc_more2 {l : List Lf} {k : Nat} {f : Lf} (on : Bool) (root asid : Int) (hs : l[k]? = some f) :
    ((encHead ⟨on, root, asid, l⟩ ++ (l.take k).flatMap encLeaf).map (Value.int .u8) ++ (leB 4 f.page ++ leB 1 f.kind ++ [one f.write] ++ leB 2 ((used f.bytes : Nat) : Int)).map (Value.int .u8)) ++ (f.bytes.take (used f.bytes)).map (Value.int .u8) =
      (encHead ⟨on, root, asid, l⟩ ++ (l.take (k + 1)).flatMap encLeaf).map (Value.int .u8) := by
  rw [List.take_add_one, hs]
  simp [encLeaf, leB]

/-- One operation under a name. -/
abbrev conv119 : Oper := { dst := some 33, op := Op.convert 9 32 (Operand.tmp 32), type := 32, pos := "ref.go:119", after := #[{ on := 18, ground := Ground.data }], guard := none }

set_option maxRecDepth 100000 in
set_option maxHeartbeats 4000000 in
theorem refEnc_any (on : Bool) (root asid : Int) (x : Option Addr) (n c B : Nat) (l : List Lf) (fs : List Value) (w : World) (hn : l.length = n) (hbig : n ≤ 1024) (hBw : B ≤ w.heap.size) (hr0 : 0 ≤ root) (hr1 : root < 18446744073709551616)
    (hx : LeavesF B w (.slice x n c) l fs) (hl0 : ∀ f ∈ l, 0 ≤ f.page ∧ f.page < 18446744073709551616) (hlen : ∀ f ∈ l, f.bytes.length = 4096) (hcap : ∀ v ∈ fs, CapOk v) (hck : chk ⟨on, root, asid, l⟩ = 0) :
    Calls Try.prog 9 #[.agg #[.bool on, .int .u64 root, .int .i64 asid, .slice x n c]] w fun e w' => ∃ v', e = .returned (.tuple #[v', .int .i64 0]) ∧ Below w.heap.size w w' ∧ ∃ N, MRow w' w.heap.size 5 v' N ((enc ⟨on, root, asid, l⟩).map (Value.int .u8)) := by
  have HX : Aside (LeavesF B w (.slice x n c) l fs) := hx
  have HL0 : Aside (∀ f ∈ l, 0 ≤ f.page ∧ f.page < 18446744073709551616) := hl0
  have HLN : Aside (∀ f ∈ l, f.bytes.length = 4096) := hlen
  have HNL : Aside (l.length = n) := hn
  have HCAP : Aside (∀ v ∈ fs, CapOk v) := hcap
  have HAS : Aside (0 ≤ asid ∧ asid ≤ 255) := ⟨(chk_right hck).1, (chk_right hck).2.1⟩
  have HKD : Aside (∀ f ∈ l, 0 ≤ f.kind ∧ f.kind ≤ 255) := kinds hck
  have HC : Aside (∀ w1, Below w.heap.size w w1 → Calls Try.prog 14 #[.agg #[.bool on, .int .u64 root, .int .i64 asid, .slice x n c]] w1 fun e w' => e = .returned (.int .i64 0) ∧ Below w1.heap.size w1 w') := fun w1 h1 => by
    have := refCheck_any on root asid x n c B l fs w1 hn (by omega) (Nat.le_trans hBw h1.size) hr0 (hx.below (h1.mono hBw)) (fun f hf => by rw [hlen f hf]; omega)
    rw [hck] at this
    exact this
  obtain ⟨i0, hi0, hz⟩ := Option.map_eq_some_iff.1 info5
  simp only [Prod.mk.injEq] at hz
  obtain ⟨hz0, hz1, hz2⟩ := hz
  clear hx hl0 hlen hck hn hcap
  go_enter Try.func9, Try.ntmps9
  go_wp2_with fail
  refine (HC.out _ ((Below.refl _ _).alloc (Nat.le_refl _) _)).mono ?_
  rintro e w1 ⟨rfl, hw1⟩
  have HBX : Aside (Box w1 w.heap.size (.bool on) (.int .u64 root) (.int .i64 asid) (.slice x n c)) := Box.new.all hw1
  have HB1 : Aside (Below w.heap.size w w1) := ((Below.refl _ _).alloc (Nat.le_refl _) _).trans (hw1.mono (by simp))
  have hs1 : w.heap.size + 1 ≤ w1.heap.size := by have := hw1.size; simp at this; exact this
  clear hw1
  obtain ⟨-, q0, q1, q2, q3⟩ := HBX.out
  go_upto_region 4 with fail
  go_cut [5] from 9 (fun v wc => ∃ va vc, v = .slice va 18 vc ∧ MRow wc (w.heap.size + 1) 5 (.slice va 18 vc) 18 ((encHead ⟨on, root, asid, l⟩).map (Value.int .u8)) ∧ Below (w.heap.size + 1) w1 wc)
  case first =>
    have HA : Aside (∀ w, Calls Try.prog 28 #[.int .u64 asid, .int .i64 1] w fun e w' => e = .returned (.string (strOfNums (leB 1 asid))) ∧ Below w.heap.size w w') := fun w => le_calls asid 1 (by have := HAS.out; omega) (by omega) w
    have HRO : Aside (∀ w, Calls Try.prog 28 #[.int .u64 root, .int .i64 8] w fun e w' => e = .returned (.string (strOfNums (leB 8 root))) ∧ Below w.heap.size w w') := fun w => le_calls root 8 (by omega) (by omega) w
    have HNN : Aside (∀ w, Calls Try.prog 28 #[.int .u64 (n : Int), .int .i64 4] w fun e w' => e = .returned (.string (strOfNums (leB 4 (n : Int)))) ∧ Below w.heap.size w w') := fun w => le_calls (n : Int) 4 (by omega) (by omega) w
    have hwa : IntKind.u64.wrap asid = asid := by rw [IntKind.wrap_u64]; have := HAS.out; omega
    have hnw : IntKind.u64.wrap (n : Int) = (n : Int) := by rw [IntKind.wrap_u64]; omega
    have hss : ∀ l, (strOfNums l).size = l.length := strOfNums_size
    have hsl : ∀ n v, (leB n v).length = n := leB_length
    have hcv := fun (w : World) (s : ByteArray) => (show Sem.run Try.prog (convert 9 32 (.string s)) w = .ok _ _ from run_bytes_of_string (P := Try.prog) w 9 32 5 s (by rw [Try.underlying9]) Try.underlying32 Try.underlying5)
    rw [show ({ dst := some 33, op := Op.convert 9 32 (Operand.tmp 32), type := 32, pos := "ref.go:119", after := #[{ on := 18, ground := Ground.data }], guard := none } : Oper) = conv119 from rfl]
    go_region_held3 (fun w' => w'.cell? ⟨w.heap.size, 0, none⟩ = some (.bool on) ∧ w'.cell? ⟨w.heap.size, 1, none⟩ = some (.int .u64 root) ∧ w'.cell? ⟨w.heap.size, 2, none⟩ = some (.int .i64 asid) ∧ w'.cell? ⟨w.heap.size, 3, none⟩ = some (.slice x n c)) (go_keep) (first
      | (go_simp; go_at_call 27; (with_reducible refine (bit_calls _ _).mono ?_); rintro e w' ⟨rfl, rfl⟩)
      | (have hfirst := HB6; clear hfirst; go_simp; go_at_call 28; (with_reducible refine (HNN.out _).mono ?_); rintro e w7 ⟨rfl, hb7⟩; have HB7 : Aside (Below w6.heap.size w6 w7 ∧ Box w7 w.heap.size (.bool on) (.int .u64 root) (.int .i64 asid) (.slice x n c)) := ⟨⟨hb7.os, hb7.tape, hb7.output, hb7.size, hb7.block⟩, HB6.out.2.all ⟨hb7.os, hb7.tape, hb7.output, hb7.size, hb7.block⟩⟩; obtain ⟨-, t0, t1, t2, t3⟩ := HB7.out.2; clear hb7)
      | (have hfirst := HB5; clear hfirst; go_simp; go_at_call 28; (with_reducible refine (HRO.out _).mono ?_); rintro e w6 ⟨rfl, hb6⟩; have HB6 : Aside (Below w5.heap.size w5 w6 ∧ Box w6 w.heap.size (.bool on) (.int .u64 root) (.int .i64 asid) (.slice x n c)) := ⟨⟨hb6.os, hb6.tape, hb6.output, hb6.size, hb6.block⟩, HB5.out.2.all ⟨hb6.os, hb6.tape, hb6.output, hb6.size, hb6.block⟩⟩; obtain ⟨-, s0, s1, s2, s3⟩ := HB6.out.2; clear hb6)
      | (go_loud (go_simp; go_at_call 28; (with_reducible refine (HA.out _).mono ?_); rintro e w5 ⟨rfl, hb5⟩; have HB5 : Aside (Below w1.heap.size w1 w5 ∧ Box w5 w.heap.size (.bool on) (.int .u64 root) (.int .i64 asid) (.slice x n c)) := ⟨⟨hb5.os, hb5.tape, hb5.output, hb5.size, hb5.block⟩, HBX.out.all ⟨hb5.os, hb5.tape, hb5.output, hb5.size, hb5.block⟩⟩; obtain ⟨-, r0, r1, r2, r3⟩ := HB5.out.2; clear hb5)))
    have HS : Aside ((({ data := #[68, 77, 73, 49] } : ByteArray) ++ strOfNums [one on] ++ strOfNums (leB 1 asid) ++ strOfNums (leB 8 root) ++ strOfNums (leB 4 (n : Int))) = strOfNums (encHead ⟨on, root, asid, l⟩)) := by
      have := head_str on root asid l
      rw [HNL.out] at this
      exact this
    all_goals (try go_wp2_with fail)
    all_goals go_meet
    all_goals exact ⟨_, _, rfl, mrow_str HS.out (head_byte _) (by simp [encHead, leB_length]) (by unfold maxLen; omega) (by have := HB5.out.1.size; have := HB6.out.1.size; have := HB7.out.1.size; omega),
      ((((show Below (w.heap.size + 1) w1 w5 from HB5.out.1.mono hs1).trans (HB6.out.1.mono (by have := HB5.out.1.size; omega))).trans (HB7.out.1.mono (by have := HB5.out.1.size; have := HB6.out.1.size; omega))).alloc (by have := HB5.out.1.size; have := HB6.out.1.size; have := HB7.out.1.size; omega) _).drew⟩
  case rest =>
    obtain ⟨vb, vd, rfl, hrow, hbl⟩ := hcut
    have HRW : Aside (MRow wc (w.heap.size + 1) 5 (.slice vb 18 vd) 18 ((encHead ⟨on, root, asid, l⟩).map (Value.int .u8))) := hrow
    have HB5 : Aside (Below (w.heap.size + 1) w1 wc) := hbl
    clear hrow hbl q0 q1 q2
    have p3c : wc.cell? ⟨w.heap.size, 3, none⟩ = some (.slice x n c) := by rw [HB5.out.cell (by simp)]; exact q3
    go_wp2_with fail
    go_loopw [5, 6] (fun v i wr => ∃ k : Nat, k ≤ n ∧ i = .int .i64 k ∧ ∃ (va : Option Addr) (vc N : Nat), v = .slice va N vc ∧ N ≤ 18 + k * 4104 ∧ MRow wr (w.heap.size + 1) 5 (.slice va N vc) N ((encHead ⟨on, root, asid, l⟩ ++ (l.take k).flatMap encLeaf).map (Value.int .u8)) ∧ Below (w.heap.size + 1) w1 wr)
      (fun _ i _ => n - (RowKit.intOf i).toNat)
    case atStart => exact ⟨0, Nat.zero_le _, rfl, vb, vd, 18, rfl, by omega, by simpa using HRW.out, HB5.out⟩
    case round =>
      obtain ⟨k, hk, rfl, va, vc, N, rfl, hN, hrow, hbl⟩ := hrel
      have HR2 : Aside (MRow wr (w.heap.size + 1) 5 (.slice va N vc) N ((encHead ⟨on, root, asid, l⟩ ++ (l.take k).flatMap encLeaf).map (Value.int .u8))) := hrow
      have HB6 : Aside (Below (w.heap.size + 1) w1 wr) := hbl
      have HBW : Aside (Below w.heap.size w wr) := HB1.out.trans (hbl.mono (Nat.le_succ _))
      have hsr : w.heap.size + 1 ≤ wr.heap.size := Nat.le_trans hs1 hbl.size
      have p3 : wr.cell? ⟨w.heap.size, 3, none⟩ = some (.slice x n c) := by rw [hbl.cell (by simp)]; exact q3
      clear hrow hbl p3c
      by_cases hlt : k < n
      · obtain ⟨b, o, f, fa, fc, rfl, hB, hs, hat, hbs, hf⟩ := LeavesF.at2 HX.out HNL.out (HBW.out.mono hBw) hlt
        obtain ⟨c0, c1, c2, c3⟩ := hat
        have hi : (k : Int) < (n : Int) := by omega
        have HF : Aside (Bs B wr (.slice fa f.bytes.length fc) f.bytes) := hbs
        have HFL : Aside (f.bytes.length = 4096) := HLN.out f (List.mem_of_getElem? hs)
        have HPG : Aside (0 ≤ f.page ∧ f.page < 18446744073709551616) := HL0.out f (List.mem_of_getElem? hs)
        have HS : Aside (l[k]? = some f) := hs
        have HUS : Aside (∀ w2, Below wr.heap.size wr w2 → Calls Try.prog 29 #[.slice fa f.bytes.length fc] w2 fun e w' => e = .returned (.int .i64 (used f.bytes)) ∧ Below w2.heap.size w2 w') := fun w2 h2 => refUsed_any fa f.bytes.length fc B f.bytes w2 rfl (by rw [HFL.out]; omega) (HF.out.below (h2.mono (Nat.le_trans hBw HBW.out.size)))
        have HUL : Aside (used f.bytes ≤ 4096) := by (have h1 := used_le f.bytes; have h2 := HFL.out; show used f.bytes ≤ 4096; omega)
        have HCF : Aside (CapOk (.slice fa f.bytes.length fc)) := HCAP.out _ (List.mem_of_getElem? hf)
        clear hs hbs hf
        go_wp2_with fail
        refine (HUS.out _ ((Below.refl _ _).alloc (Nat.le_refl _) _)).mono ?_
        rintro e w5 ⟨rfl, hw5⟩
        have HLF : Aside (Box w5 wr.heap.size (.int .u64 f.page) (.int .i64 f.kind) (.bool f.write) (.slice fa f.bytes.length fc)) := Box.new.all hw5
        have HB7 : Aside (Below wr.heap.size wr w5) := ((Below.refl _ _).alloc (Nat.le_refl _) _).trans (hw5.mono (by simp))
        clear hw5 c0 c1 c2 c3 p3
        obtain ⟨-, y0, y1, y2, y3⟩ := HLF.out
        have hus : IntKind.u64.wrap ((used f.bytes : Nat) : Int) = ((used f.bytes : Nat) : Int) := by rw [IntKind.wrap_u64]; have := HUL.out; omega
        have hkd := HKD.out f (List.mem_of_getElem? HS.out)
        have hkw : IntKind.u64.wrap f.kind = f.kind := by rw [IntKind.wrap_u64]; omega
        have hss : ∀ l, (strOfNums l).size = l.length := strOfNums_size
        have hsl : ∀ n v, (leB n v).length = n := leB_length
        have HA : Aside (∀ w, Calls Try.prog 28 #[.int .u64 f.page, .int .i64 4] w fun e w' => e = .returned (.string (strOfNums (leB 4 f.page))) ∧ Below w.heap.size w w') := fun w => le_calls f.page 4 HPG.out (by omega) w
        have HKK : Aside (∀ w, Calls Try.prog 28 #[.int .u64 f.kind, .int .i64 1] w fun e w' => e = .returned (.string (strOfNums (leB 1 f.kind))) ∧ Below w.heap.size w w') := fun w => le_calls f.kind 1 (by omega) (by omega) w
        have HUU : Aside (∀ w, Calls Try.prog 28 #[.int .u64 ((used f.bytes : Nat) : Int), .int .i64 2] w fun e w' => e = .returned (.string (strOfNums (leB 2 ((used f.bytes : Nat) : Int)))) ∧ Below w.heap.size w w') := fun w => le_calls _ 2 (by have := HUL.out; omega) (by omega) w
        have HST : Aside (strOfNums (leB 4 f.page) ++ strOfNums (leB 1 f.kind) ++ strOfNums [one f.write] ++ strOfNums (leB 2 ((used f.bytes : Nat) : Int)) = strOfNums (leB 4 f.page ++ leB 1 f.kind ++ [one f.write] ++ leB 2 ((used f.bytes : Nat) : Int))) := by
          show _ = _
          rw [strOfNums_append, strOfNums_append, strOfNums_append]
        clear HX HL0 HLN HCAP HC HBX HRW HB5 HUS
        go_upto_region 10 with fail
        go_region_held3 (fun w' => w'.cell? ⟨wr.heap.size, 0, none⟩ = some (.int .u64 f.page) ∧ w'.cell? ⟨wr.heap.size, 1, none⟩ = some (.int .i64 f.kind) ∧ w'.cell? ⟨wr.heap.size, 2, none⟩ = some (.bool f.write) ∧ w'.cell? ⟨wr.heap.size, 3, none⟩ = some (.slice fa f.bytes.length fc)) (go_keep) (first
          | (go_simp; go_at_call 27; (with_reducible refine (bit_calls _ _).mono ?_); rintro e w' ⟨rfl, hww⟩; replace hww := hww.symm; subst hww)
          | (have hfirst := HB9; clear hfirst; go_simp; go_at_call 28; (with_reducible refine (HUU.out _).mono ?_); rintro e w8 ⟨rfl, hb8⟩; have HB10 : Aside (Below wr.heap.size wr w8 ∧ Box w8 wr.heap.size (.int .u64 f.page) (.int .i64 f.kind) (.bool f.write) (.slice fa f.bytes.length fc)) := ⟨HB9.out.1.trans ((show Below w7.heap.size w7 w8 from ⟨hb8.os, hb8.tape, hb8.output, hb8.size, hb8.block⟩).mono HB9.out.1.size), HB9.out.2.all ⟨hb8.os, hb8.tape, hb8.output, hb8.size, hb8.block⟩⟩; obtain ⟨-, t0, t1, t2, t3⟩ := HB10.out.2; clear hb8)
          | (have hfirst := HB8; clear hfirst; go_simp; go_at_call 28; (with_reducible refine (HKK.out _).mono ?_); rintro e w7 ⟨rfl, hb7⟩; have HB9 : Aside (Below wr.heap.size wr w7 ∧ Box w7 wr.heap.size (.int .u64 f.page) (.int .i64 f.kind) (.bool f.write) (.slice fa f.bytes.length fc)) := ⟨HB8.out.1.trans ((show Below w6.heap.size w6 w7 from ⟨hb7.os, hb7.tape, hb7.output, hb7.size, hb7.block⟩).mono HB8.out.1.size), HB8.out.2.all ⟨hb7.os, hb7.tape, hb7.output, hb7.size, hb7.block⟩⟩; obtain ⟨-, s0, s1, s2, s3⟩ := HB9.out.2; clear hb7)
          | (go_simp; go_at_call 28; (with_reducible refine (HA.out _).mono ?_); rintro e w6 ⟨rfl, hb6⟩; have HB8 : Aside (Below wr.heap.size wr w6 ∧ Box w6 wr.heap.size (.int .u64 f.page) (.int .i64 f.kind) (.bool f.write) (.slice fa f.bytes.length fc)) := ⟨HB7.out.trans ((show Below w5.heap.size w5 w6 from ⟨hb6.os, hb6.tape, hb6.output, hb6.size, hb6.block⟩).mono HB7.out.size), HLF.out.all ⟨hb6.os, hb6.tape, hb6.output, hb6.size, hb6.block⟩⟩; obtain ⟨-, r0, r1, r2, r3⟩ := HB8.out.2; clear hb6)
          | (have hfirst := HB10; clear hfirst; refine step_append_strM rfl (.tmp 49) (.tmp 65) 32 9 rfl 5 i0 Try.underlying32 Try.underlying9 hi0 hz0 hz1 hz2 (w.heap.size + 1) (.slice va N vc) N _ rfl (HR2.out.kept ⟨HB10.out.1.os, HB10.out.1.tape, HB10.out.1.output, HB10.out.1.size, fun j hj _ => HB10.out.1.block j hj⟩ (row := none) (by rw [HR2.out.own]; simp)) _ rfl (N + 8) (by rw [HST.out, strOfNums_size]; simp [leB_length]) (by unfold maxLen; omega) (by omega) (by have := HB10.out.1.size; show _ ≤ w8.heap.size; omega) ?_; intro g9 c9 w9 hm9 hg9; have HM9 : Aside (MRow w9 (w.heap.size + 1) 5 (.slice (some ⟨g9, 0, none⟩) (N + 8) c9) (N + 8) _) := hm9; have HB11 : Aside (Below (w.heap.size + 1) wr w9) := (HB10.out.1.mono hsr).grown (show w8.grownBy w9 _ from ⟨hg9.os, hg9.tape, hg9.output, hg9.size, hg9.block⟩) (by have := HB10.out.1.size; omega) (fun g hg => (HR2.out.lt g hg).1); have HX9 : Aside (Box w9 wr.heap.size (.int .u64 f.page) (.int .i64 f.kind) (.bool f.write) (.slice fa f.bytes.length fc)) := HB10.out.2.grown hg9 (fun h => by have := (HR2.out.lt _ h.symm).2; omega); obtain ⟨-, z0, z1, z2, z3⟩ := HX9.out; clear hm9 hg9)
          | (trace_state; fail))
        all_goals
          have HBY : Aside (Byte (leB 4 f.page ++ leB 1 f.kind ++ [one f.write] ++ leB 2 ((used f.bytes : Nat) : Int))) := by
            show Byte _
            have ho : ∀ b, 0 ≤ one b ∧ one b < 256 := fun b => by cases b <;> decide
            intro x hx
            simp only [List.mem_append, List.mem_cons, List.not_mem_nil, or_false] at hx
            rcases hx with ((hx | hx) | rfl) | hx
            · exact leB_byte _ _ x hx
            · exact leB_byte _ _ x hx
            · exact ho _
            · exact leB_byte _ _ x hx
          have HM10 : Aside (MRow w9 (w.heap.size + 1) 5 (.slice (some ⟨g9, 0, none⟩) (N + 8) c9) (N + 8) ((encHead ⟨on, root, asid, l⟩ ++ (l.take k).flatMap encLeaf).map (Value.int .u8) ++ (leB 4 f.page ++ leB 1 f.kind ++ [one f.write] ++ leB 2 ((used f.bytes : Nat) : Int)).map (Value.int .u8))) := by
            have h := HM9.out
            rw [HST.out, strCells_nums HBY.out] at h
            exact h
          have HXB : Aside (Bs B w9 (.slice fa f.bytes.length fc) f.bytes) := HF.out.below (HB11.out.mono (by omega))
          obtain ⟨b9, o9, u9', rfl, hB9, -, -⟩ := HXB.out.at (j := 0) (by have := HFL.out; omega)
          have HNEW : Aside (∀ j u, ((f.bytes.take (used f.bytes)).map (Value.int .u8))[j]? = some u → w9.cell? ((⟨b9, o9, none⟩ : Addr).add j) = some u) := by
            intro j u hj
            obtain ⟨a', cap', he, h3⟩ := HXB.out
            cases he
            rcases h3 with h3 | ⟨b', off', he, _, hc⟩
            · have := HFL.out; rw [h3] at this; simp at this
            · cases he
              rw [Addr.add_lit]
              apply hc
              rw [List.getElem?_map] at hj ⊢
              rw [List.getElem?_take] at hj
              split at hj
              · exact hj
              · simp at hj
          have HNLN : Aside (((f.bytes.take (used f.bytes)).map (Value.int .u8)).length = used f.bytes) := by have := used_le f.bytes; show _ = _; simp; omega
          have hul : ((used f.bytes : Nat) : Int) ≤ ((fc : Nat) : Int) := by have h1 : f.bytes.length ≤ fc := HCF.out; have := used_le f.bytes; omega
          go_wp2_with (at_builtin; refine wpList_append_sliceM rfl _ _ 32 rfl 5 i0 (.int .u8 0) Try.underlying32 hi0 hz0 hz1 hz2 rfl (w.heap.size + 1) _ (N + 8) _ rfl HM10.out ⟨b9, o9, none⟩ (used f.bytes) _ ((f.bytes.take (used f.bytes)).map (Value.int .u8)) rfl HNLN.out HNEW.out (by intro u hu; rw [List.mem_map] at hu; obtain ⟨_, _, rfl⟩ := hu; rfl) (by have := HUL.out; unfold maxLen; omega) (by have := HUL.out; omega) (by have := HB11.out.size; omega) ?_; intro g10 c10 w10 hm10 hg10)
          go_roundw
          case rel =>
            refine ⟨k + 1, by omega, by go_num, _, c10, N + 8 + used f.bytes, rfl, by have := HUL.out; omega, ?_, ?_⟩
            · rw [enc_more2 on root asid HS.out] at hm10
              exact hm10
            · exact (HB6.out.trans HB11.out).grown hg10 (by have := HB11.out.size; omega) (fun g hg => (HM10.out.lt g hg).1)
          case measure => simp [RowKit.intOf]; omega
      · have hkn : k = n := by omega
        have HRN : Aside (MRow wr (w.heap.size + 1) 5 (.slice va N vc) N ((enc ⟨on, root, asid, l⟩).map (Value.int .u8))) := by
          have := HR2.out
          rw [hkn, ← HNL.out, List.take_length] at this
          exact this
        have hi : ¬ ((k : Int) < (n : Int)) := by omega
        go_wp2_with fail
        obtain ⟨h1, g, cap, cur, fz, he, hg, rest⟩ := HRN.out
        refine bodyPost_ret (v := .tuple #[.slice va N vc, .int .i64 0]) (by simp [results, Try.results9, go_sem]) rfl ⟨_, rfl, HBW.out, N, h1, g, cap, cur, fz, he, by omega, rest⟩
end Go.Proofs.Ytdlnipimljpmgaa
