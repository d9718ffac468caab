/- The document's Parse (package ostinatoref3), walked by hand. -/
import Derived.Test.YtpkpnaedacefaaaGreatRefF
namespace Go.Proofs.YtpkpnaedacefaaaGreat.FrameW
set_option linter.unusedVariables false
set_option linter.unusedSimpArgs false
open Go Go.RowKit Go.Proofs.YtpkpnaedacefaaaGreat.Lib Go.Proofs.YtpkpnaedacefaaaGreat.Bits Go.Proofs.YtpkpnaedacefaaaGreat.BitsW Go.Proofs.YtpkpnaedacefaaaGreat.Frame Go.Proofs.YtpkpnaedacefaaaGreat.PrintMore
attribute [local go_sem] max2_int min2_int max_two min_two forms_ix0 forms_ix1

theorem rnum_calls (s : ByteArray) (w : World) (hs : s.size ≤ 100000) :
    Calls Tryz.prog 65 #[.string s] w fun e w' => e = .returned (.int .u64 (num64 (bitsOf s))) ∧ Below w.heap.size w w' := RefW.rnum_calls s w (by omega)
theorem rbytes_calls (s : ByteArray) (w : World) (hs : s.size ≤ 100000) :
    Calls Tryz.prog 109 #[.string s] w fun e w' => e = .returned (.string ⟨(toB (bitsOf s)).toArray⟩) ∧ Below w.heap.size w w' := RefW.rbytes_calls s w hs

set_option maxRecDepth 100000 in
set_option maxHeartbeats 3200000 in
theorem rparse_none (s : ByteArray) (w : World) (hs : s.size ≤ 100000) (h : s.size < 1) :
    Calls Tryz.prog 94 #[.string s] w fun e w' => e = .returned (parseV false 0 false ⟨#[]⟩ 0 10) ∧ Below w.heap.size w w' := by
  have c1a : ((s.size : Int) < 1) = True := eq_true (by omega)
  have c1b : decide ((s.size : Int) < 1) = true := decide_eq_true (by omega)
  have hb0 := Blk.new w [.bool false, .int .u32 0, .bool false, .string ⟨#[]⟩] 35
  have HBL := (Below.refl w.heap.size w).alloc (Nat.le_refl _) (.cells #[.bool false, .int .u32 0, .bool false, .string ⟨#[]⟩] 35)
  go_enter Tryz.func94, Tryz.ntmps94
  go_wp2_with fail
  have hz := frame_res hb0
  obtain ⟨z0, z1, z2, z3⟩ := hz
  exact bodyPost_ret (v := parseV false 0 false ⟨#[]⟩ 0 10) (by simp [results, Tryz.results94, go_sem, parseV, z0, z1, z2, z3]) rfl ⟨rfl, HBL⟩
set_option maxRecDepth 100000 in
set_option maxHeartbeats 3200000 in
theorem rparse_one (s : ByteArray) (w : World) (hs : s.size ≤ 100000) (h : 0 < s.size) (h0 : (bitsOf s).getD 0 false = true) :
    Calls Tryz.prog 94 #[.string s] w fun e w' => e = .returned (parseV false 0 false ⟨#[]⟩ 0 12) ∧ Below w.heap.size w w' := by
  have z0' : 0 < s.size := by omega
  have hb0' := bit_at s 0 z0'
  rw [h0] at hb0'
  have c1a : ((s.size : Int) < 1) = False := eq_false (by omega)
  have c1b : decide ((s.size : Int) < 1) = false := decide_eq_false (by omega)
  have zi0 : (0 : Int) < s.size := by omega
  clear h0
  have hb0 := Blk.new w [.bool false, .int .u32 0, .bool false, .string ⟨#[]⟩] 35
  have HBL := (Below.refl w.heap.size w).alloc (Nat.le_refl _) (.cells #[.bool false, .int .u32 0, .bool false, .string ⟨#[]⟩] 35)
  go_enter Tryz.func94, Tryz.ntmps94
  go_wp2_with fail
  have hz := frame_res hb0
  obtain ⟨z0, z1, z2, z3⟩ := hz
  exact bodyPost_ret (v := parseV false 0 false ⟨#[]⟩ 0 12) (by simp [results, Tryz.results94, go_sem, parseV, z0, z1, z2, z3]) rfl ⟨rfl, HBL⟩
set_option maxRecDepth 100000 in
set_option maxHeartbeats 3200000 in
theorem rparse_short (s : ByteArray) (w : World) (hs : s.size ≤ 100000) (h : 0 < s.size) (h14 : s.size < 14) (h0 : (bitsOf s).getD 0 false = false) :
    Calls Tryz.prog 94 #[.string s] w fun e w' => e = .returned (parseV false 0 false ⟨#[]⟩ 0 10) ∧ Below w.heap.size w w' := by
  have z0' : 0 < s.size := by omega
  have hb0' := bit_at s 0 z0'
  rw [h0] at hb0'
  have c1a : ((s.size : Int) < 1) = False := eq_false (by omega)
  have c1b : decide ((s.size : Int) < 1) = false := decide_eq_false (by omega)
  have zi0 : (0 : Int) < s.size := by omega
  have c2a : ((s.size : Int) < 14) = True := eq_true (by omega)
  have c2b : decide ((s.size : Int) < 14) = true := decide_eq_true (by omega)
  clear h0
  have hb0 := Blk.new w [.bool false, .int .u32 0, .bool false, .string ⟨#[]⟩] 35
  have HBL := (Below.refl w.heap.size w).alloc (Nat.le_refl _) (.cells #[.bool false, .int .u32 0, .bool false, .string ⟨#[]⟩] 35)
  go_enter Tryz.func94, Tryz.ntmps94
  go_wp2_with fail
  have hz := frame_res hb0
  obtain ⟨z0, z1, z2, z3⟩ := hz
  exact bodyPost_ret (v := parseV false 0 false ⟨#[]⟩ 0 10) (by simp [results, Tryz.results94, go_sem, parseV, z0, z1, z2, z3]) rfl ⟨rfl, HBL⟩
set_option maxRecDepth 100000 in
set_option maxHeartbeats 3200000 in
theorem rparse_s_a (s : ByteArray) (w : World) (hs : s.size ≤ 100000) (h14 : 14 ≤ s.size) (h0 : (bitsOf s).getD 0 false = false) (h13 : (bitsOf s).getD 13 false = false) (hat : s.size < 19) (R : Bool) (hR : (bitsOf s).getD 12 false = R) :
    Calls Tryz.prog 94 #[.string s] w fun e w' => e = .returned (parseV false 0 false ⟨#[]⟩ 0 10) ∧ Below w.heap.size w w' := by
  obtain ⟨A, hA⟩ : ∃ A, numN (((bitsOf s).drop 1).take 11) = A := ⟨_, rfl⟩
  have z0' : 0 < s.size := by omega
  have hb0' := bit_at s 0 z0'
  rw [h0] at hb0'
  have c1a : ((s.size : Int) < 1) = False := eq_false (by omega)
  have c1b : decide ((s.size : Int) < 1) = false := decide_eq_false (by omega)
  have zi0 : (0 : Int) < s.size := by omega
  have c2a : ((s.size : Int) < 14) = False := eq_false (by omega)
  have c2b : decide ((s.size : Int) < 14) = false := decide_eq_false (by omega)
  have z13 : 13 < s.size := by omega
  have zi13 : (13 : Int) < s.size := by omega
  have hb13 := bit_at s 13 z13
  rw [h13] at hb13
  have z12 : 12 < s.size := by omega
  have zi12 : (12 : Int) < s.size := by omega
  have hb12 := bit_at s 12 z12
  rw [hR] at hb12
  have hAl : A < 2048 := by rw [← hA]; exact num_lt _ 1 11
  have HNUM := hid (show num64 (bitsOf (s.extract 1 12)) = A by rw [← hA]; exact num_part s 1 11 (by decide))
  have q1 : ((12 : Int) ≤ (s.size : Int)) = True := eq_true (by omega)
  have q2 : (12 ≤ s.size) = True := eq_true (by omega)
  have e6 : IntKind.u32.wrap (A : Int) = A := by rw [IntKind.wrap_u32]; omega
  have c4a : ((s.size : Int) < 19) = True := eq_true (by omega)
  have c4b : decide ((s.size : Int) < 19) = true := decide_eq_true (by omega)
  clear h0 h13 hA hAl h14 hR hat
  have hb0 := Blk.new w [.bool false, .int .u32 0, .bool false, .string ⟨#[]⟩] 35
  have HBL := (Below.refl w.heap.size w).alloc (Nat.le_refl _) (.cells #[.bool false, .int .u32 0, .bool false, .string ⟨#[]⟩] 35)
  go_enter Tryz.func94, Tryz.ntmps94
  go_wp2_with fail
  refine (rnum_calls _ _ (by rw [ByteArray.size_extract]; omega)).mono ?_
  rintro e w1 ⟨rfl, hb1⟩
  rw [HNUM.out]
  have hx := (hb0.below hb1)
  have HB1 := HBL.trans (hb1.mono HBL.size)
  have hr0 : w.heap.size < w1.heap.size := hx.lt
  clear hb0 hb1 HBL
  generalize hw0 : w.heap.size = r0 at *
  have HW0 := hid hw0
  clear hw0
  obtain ⟨_, _, _, _⟩ := frame_res hx
  obtain ⟨_, _, _, _⟩ := frame_free hx
  have hz := frame_res ((set4_blk hx false 0 false ⟨#[]⟩).alloc (.cells #[.bool false, .int .u32 A, .bool R, .string ⟨#[]⟩] 35))
  have hbz := (set4_below HB1 (Nat.le_refl _) false 0 false ⟨#[]⟩).alloc (by simp [set4, World.setCell]; omega) (.cells #[.bool false, .int .u32 A, .bool R, .string ⟨#[]⟩] 35)
  unfold set4 at hz hbz
  have HZ := hid hz
  have HBZ := hid hbz
  clear hz hbz hx HB1
  go_wp2_with fail
  obtain ⟨z0, z1, z2, z3⟩ := HZ.out
  exact bodyPost_ret (v := parseV false 0 false ⟨#[]⟩ 0 10) (by simp [results, Tryz.results94, go_sem, parseV, z0, z1, z2, z3]) rfl ⟨rfl, by rw [HW0.out]; exact HBZ.out⟩
set_option maxRecDepth 100000 in
set_option maxHeartbeats 3200000 in
theorem rparse_s_rtr (s : ByteArray) (w : World) (hs : s.size ≤ 100000) (h14 : 14 ≤ s.size) (h0 : (bitsOf s).getD 0 false = false) (h13 : (bitsOf s).getD 13 false = false) (hat : 19 ≤ s.size) (hR : (bitsOf s).getD 12 false = true) (A : Nat) (hA : numN (((bitsOf s).drop 1).take 11) = A) :
    Calls Tryz.prog 94 #[.string s] w fun e w' => e = .returned (parseV false A true ⟨#[]⟩ 19 0) ∧ Below w.heap.size w w' := by
  have z0' : 0 < s.size := by omega
  have hb0' := bit_at s 0 z0'
  rw [h0] at hb0'
  have c1a : ((s.size : Int) < 1) = False := eq_false (by omega)
  have c1b : decide ((s.size : Int) < 1) = false := decide_eq_false (by omega)
  have zi0 : (0 : Int) < s.size := by omega
  have c2a : ((s.size : Int) < 14) = False := eq_false (by omega)
  have c2b : decide ((s.size : Int) < 14) = false := decide_eq_false (by omega)
  have z13 : 13 < s.size := by omega
  have zi13 : (13 : Int) < s.size := by omega
  have hb13 := bit_at s 13 z13
  rw [h13] at hb13
  have z12 : 12 < s.size := by omega
  have zi12 : (12 : Int) < s.size := by omega
  have hb12 := bit_at s 12 z12
  rw [hR] at hb12
  have hAl : A < 2048 := by rw [← hA]; exact num_lt _ 1 11
  have HNUM := hid (show num64 (bitsOf (s.extract 1 12)) = A by rw [← hA]; exact num_part s 1 11 (by decide))
  have q1 : ((12 : Int) ≤ (s.size : Int)) = True := eq_true (by omega)
  have q2 : (12 ≤ s.size) = True := eq_true (by omega)
  have e6 : IntKind.u32.wrap (A : Int) = A := by rw [IntKind.wrap_u32]; omega
  have c4a : ((s.size : Int) < 19) = False := eq_false (by omega)
  have c4b : decide ((s.size : Int) < 19) = false := decide_eq_false (by omega)
  obtain ⟨m, hm⟩ : ∃ m, numN (((bitsOf s).drop 15).take 4) = m := ⟨_, rfl⟩
  have hml : m < 16 := by rw [← hm]; exact num_lt _ 15 4
  have HNU4 := hid (show num64 (bitsOf (s.extract 15 19)) = m by rw [← hm]; exact num_part s 15 4 (by decide))
  have r1 : ((19 : Int) ≤ (s.size : Int)) = True := eq_true (by omega)
  have r2 : (19 ≤ s.size) = True := eq_true (by omega)
  have b0 : 0 ≤ (m : Int) := Int.natCast_nonneg _
  have b1 : (m : Int) ≤ 15 := by omega
  obtain ⟨M, hM'⟩ : ∃ M, min m 8 = M := ⟨_, rfl⟩
  have hite : (if 8 < (m : Int) then (8 : Int) else (m : Int)) = (M : Int) := by split <;> omega
  have hM8 : M ≤ 8 := by omega
  have b2 : IntKind.i64.wrap (M : Int) = M := by rw [IntKind.wrap_i64]; omega
  have b3 : IntKind.i64.wrap (8 * (M : Int)) = 8 * (M : Int) := by rw [IntKind.wrap_i64]; omega
  have b4 : IntKind.i64.wrap (19 + 8 * (M : Int)) = 19 + 8 * (M : Int) := by rw [IntKind.wrap_i64]; omega
  have HBY := hid (show toB (bitsOf ByteArray.empty) = [] from rfl)
  clear h0 h13 hA hAl h14 hR hat hm hml hM' hM8
  have HITE := hid hite
  have hb0 := Blk.new w [.bool false, .int .u32 0, .bool false, .string ⟨#[]⟩] 35
  have HBL := (Below.refl w.heap.size w).alloc (Nat.le_refl _) (.cells #[.bool false, .int .u32 0, .bool false, .string ⟨#[]⟩] 35)
  go_enter Tryz.func94, Tryz.ntmps94
  go_wp2_with fail
  refine (rnum_calls _ _ (by rw [ByteArray.size_extract]; omega)).mono ?_
  rintro e w1 ⟨rfl, hb1⟩
  rw [HNUM.out]
  have hx := (hb0.below hb1)
  have HB1 := HBL.trans (hb1.mono HBL.size)
  have hr0 : w.heap.size < w1.heap.size := hx.lt
  clear hb0 hb1 HBL
  generalize hw0 : w.heap.size = r0 at *
  have HW0 := hid hw0
  clear hw0
  have hX := Blk.new w1 [.bool false, .int .u32 A, .bool true, .string ⟨#[]⟩] 35
  have hR0 := hx.alloc (.cells #[.bool false, .int .u32 A, .bool true, .string ⟨#[]⟩] 35)
  have HB2 := HB1.alloc (Nat.le_of_lt hr0) (.cells #[.bool false, .int .u32 A, .bool true, .string ⟨#[]⟩] 35)
  clear hx HB1
  go_wp2_with fail
  generalize hxx : w1.heap.size = x at *
  have hxr : r0 ≠ x := by omega
  have hrx : r0 ≤ x := by omega
  clear hr0 hxx
  refine (rnum_calls _ _ (by rw [ByteArray.size_extract]; omega)).mono ?_
  rintro e w3 ⟨rfl, hb3⟩
  rw [HNU4.out]
  have HB3 := HB2.trans (hb3.mono (Nat.le_of_lt hR0.lt))
  have hX3 := hX.below hb3
  have hR3 := hR0.below hb3
  clear hb3 hX hR0 HB2
  obtain ⟨x0, x1, x2, x3⟩ := frame_res hX3
  obtain ⟨f0, f1, f2, f3⟩ := frame_free hX3
  have HX := hid hX3
  have HR0 := hid hR3
  have HBB := hid HB3
  clear hX3 hR3 HB3
  go_wp2_with fail
  refine (rbytes_calls _ _ (by first | (rw [ByteArray.size_extract]; omega) | decide)).mono ?_
  rintro e w6 ⟨rfl, hb6⟩
  rw [HBY.out]
  have hX6 := HX.out.below hb6
  have hR6 := HR0.out.below hb6
  have hBW6 := HBB.out.trans (hb6.mono (Nat.le_of_lt HR0.out.lt))
  have hX7 := hX6.set 3 (.string ⟨([] : List UInt8).toArray⟩)
  simp only [List.set_cons_zero, List.set_cons_succ] at hX7
  have hR7 := hR6.far (p := ⟨x, 3, none⟩) hxr (.string ⟨([] : List UInt8).toArray⟩)
  have hBW7 := hBW6.setCell (p := ⟨x, 3, none⟩) (by exact hrx) (.string ⟨([] : List UInt8).toArray⟩)
  clear x0 x1 x2 x3 f0 f1 f2 f3
  obtain ⟨u0, u1, u2, u3⟩ := frame_res hX6
  obtain ⟨v0, v1, v2, v3⟩ := frame_free hX6
  obtain ⟨s0, s1, s2, s3⟩ := frame_res hX7
  obtain ⟨t0, t1, t2, t3⟩ := frame_free hR7
  obtain ⟨r1', r2', r3', r4'⟩ := frame_res hR7
  have hz := frame_res (set4_blk hR7 false A true ⟨#[]⟩)
  have hbz := set4_below hBW7 (Nat.le_refl _) false A true ⟨#[]⟩
  unfold set4 at hz hbz
  have HZ := hid hz
  have HBZ := hid hbz
  clear hz hbz hb6 hX6 hR6 hBW6 hX7 hR7 hBW7 HX HR0 HBB
  go_wp2_with fail
  obtain ⟨z0, z1, z2, z3⟩ := HZ.out
  exact bodyPost_ret (v := parseV false A true ⟨#[]⟩ 19 0) (by simp [results, Tryz.results94, go_sem, parseV, z0, z1, z2, z3]) rfl ⟨rfl, by rw [HW0.out]; exact HBZ.out⟩
set_option maxRecDepth 100000 in
set_option maxHeartbeats 3200000 in
theorem rparse_s_low (s : ByteArray) (w : World) (hs : s.size ≤ 100000) (h14 : 14 ≤ s.size) (h0 : (bitsOf s).getD 0 false = false) (h13 : (bitsOf s).getD 13 false = false) (hat : 19 ≤ s.size) (hR : (bitsOf s).getD 12 false = false) (M : Nat) (hM : min (numN (((bitsOf s).drop 15).take 4)) 8 = M) (hlow : s.size < 19 + 8 * M) :
    Calls Tryz.prog 94 #[.string s] w fun e w' => e = .returned (parseV false 0 false ⟨#[]⟩ 0 10) ∧ Below w.heap.size w w' := by
  obtain ⟨A, hA⟩ : ∃ A, numN (((bitsOf s).drop 1).take 11) = A := ⟨_, rfl⟩
  have z0' : 0 < s.size := by omega
  have hb0' := bit_at s 0 z0'
  rw [h0] at hb0'
  have c1a : ((s.size : Int) < 1) = False := eq_false (by omega)
  have c1b : decide ((s.size : Int) < 1) = false := decide_eq_false (by omega)
  have zi0 : (0 : Int) < s.size := by omega
  have c2a : ((s.size : Int) < 14) = False := eq_false (by omega)
  have c2b : decide ((s.size : Int) < 14) = false := decide_eq_false (by omega)
  have z13 : 13 < s.size := by omega
  have zi13 : (13 : Int) < s.size := by omega
  have hb13 := bit_at s 13 z13
  rw [h13] at hb13
  have z12 : 12 < s.size := by omega
  have zi12 : (12 : Int) < s.size := by omega
  have hb12 := bit_at s 12 z12
  rw [hR] at hb12
  have hAl : A < 2048 := by rw [← hA]; exact num_lt _ 1 11
  have HNUM := hid (show num64 (bitsOf (s.extract 1 12)) = A by rw [← hA]; exact num_part s 1 11 (by decide))
  have q1 : ((12 : Int) ≤ (s.size : Int)) = True := eq_true (by omega)
  have q2 : (12 ≤ s.size) = True := eq_true (by omega)
  have e6 : IntKind.u32.wrap (A : Int) = A := by rw [IntKind.wrap_u32]; omega
  have c4a : ((s.size : Int) < 19) = False := eq_false (by omega)
  have c4b : decide ((s.size : Int) < 19) = false := decide_eq_false (by omega)
  obtain ⟨m, hm⟩ : ∃ m, numN (((bitsOf s).drop 15).take 4) = m := ⟨_, rfl⟩
  have hml : m < 16 := by rw [← hm]; exact num_lt _ 15 4
  have HNU4 := hid (show num64 (bitsOf (s.extract 15 19)) = m by rw [← hm]; exact num_part s 15 4 (by decide))
  have r1 : ((19 : Int) ≤ (s.size : Int)) = True := eq_true (by omega)
  have r2 : (19 ≤ s.size) = True := eq_true (by omega)
  have b0 : 0 ≤ (m : Int) := Int.natCast_nonneg _
  have b1 : (m : Int) ≤ 15 := by omega
  have hM' : min m 8 = M := by rw [← hm]; exact hM
  have hite : (if 8 < (m : Int) then (8 : Int) else (m : Int)) = (M : Int) := by split <;> omega
  have hM8 : M ≤ 8 := by omega
  have b2 : IntKind.i64.wrap (M : Int) = M := by rw [IntKind.wrap_i64]; omega
  have b3 : IntKind.i64.wrap (8 * (M : Int)) = 8 * (M : Int) := by rw [IntKind.wrap_i64]; omega
  have b4 : IntKind.i64.wrap (19 + 8 * (M : Int)) = 19 + 8 * (M : Int) := by rw [IntKind.wrap_i64]; omega
  have c5a : ((s.size : Int) < 19 + 8 * (M : Int)) = True := eq_true (by omega)
  have c5b : decide ((s.size : Int) < 19 + 8 * (M : Int)) = true := decide_eq_true (by omega)
  clear h0 h13 hA hAl h14 hR hat hm hml hM' hM8 hM hlow
  have HITE := hid hite
  have hb0 := Blk.new w [.bool false, .int .u32 0, .bool false, .string ⟨#[]⟩] 35
  have HBL := (Below.refl w.heap.size w).alloc (Nat.le_refl _) (.cells #[.bool false, .int .u32 0, .bool false, .string ⟨#[]⟩] 35)
  go_enter Tryz.func94, Tryz.ntmps94
  go_wp2_with fail
  refine (rnum_calls _ _ (by rw [ByteArray.size_extract]; omega)).mono ?_
  rintro e w1 ⟨rfl, hb1⟩
  rw [HNUM.out]
  have hx := (hb0.below hb1)
  have HB1 := HBL.trans (hb1.mono HBL.size)
  have hr0 : w.heap.size < w1.heap.size := hx.lt
  clear hb0 hb1 HBL
  generalize hw0 : w.heap.size = r0 at *
  have HW0 := hid hw0
  clear hw0
  have hX := Blk.new w1 [.bool false, .int .u32 A, .bool false, .string ⟨#[]⟩] 35
  have hR0 := hx.alloc (.cells #[.bool false, .int .u32 A, .bool false, .string ⟨#[]⟩] 35)
  have HB2 := HB1.alloc (Nat.le_of_lt hr0) (.cells #[.bool false, .int .u32 A, .bool false, .string ⟨#[]⟩] 35)
  clear hx HB1
  go_wp2_with fail
  generalize hxx : w1.heap.size = x at *
  have hxr : r0 ≠ x := by omega
  have hrx : r0 ≤ x := by omega
  clear hr0 hxx
  refine (rnum_calls _ _ (by rw [ByteArray.size_extract]; omega)).mono ?_
  rintro e w3 ⟨rfl, hb3⟩
  rw [HNU4.out]
  have HB3 := HB2.trans (hb3.mono (Nat.le_of_lt hR0.lt))
  have hX3 := hX.below hb3
  have hR3 := hR0.below hb3
  clear hb3 hX hR0 HB2
  obtain ⟨x0, x1, x2, x3⟩ := frame_res hX3
  obtain ⟨f0, f1, f2, f3⟩ := frame_free hX3
  obtain ⟨_, _, _, _⟩ := frame_res hR3
  obtain ⟨_, _, _, _⟩ := frame_free hR3
  have hz := frame_res (set4_blk hR3 false 0 false ⟨#[]⟩)
  have hbz := set4_below HB3 (Nat.le_refl _) false 0 false ⟨#[]⟩
  unfold set4 at hz hbz
  have HZ := hid hz
  have HBZ := hid hbz
  clear hz hbz
  clear hX3 hR3 HB3
  go_wp2_with fail
  obtain ⟨z0, z1, z2, z3⟩ := HZ.out
  exact bodyPost_ret (v := parseV false 0 false ⟨#[]⟩ 0 10) (by simp [results, Tryz.results94, go_sem, parseV, z0, z1, z2, z3]) rfl ⟨rfl, by rw [HW0.out]; exact HBZ.out⟩
set_option maxRecDepth 100000 in
set_option maxHeartbeats 3200000 in
theorem rparse_s_data (s : ByteArray) (w : World) (hs : s.size ≤ 100000) (h14 : 14 ≤ s.size) (h0 : (bitsOf s).getD 0 false = false) (h13 : (bitsOf s).getD 13 false = false) (hat : 19 ≤ s.size) (hR : (bitsOf s).getD 12 false = false) (M : Nat) (hM : min (numN (((bitsOf s).drop 15).take 4)) 8 = M) (hlow : 19 + 8 * M ≤ s.size) (A : Nat) (hA : numN (((bitsOf s).drop 1).take 11) = A) (D : List UInt8) (hD : toB (((bitsOf s).drop 19).take (8 * M)) = D) :
    Calls Tryz.prog 94 #[.string s] w fun e w' => e = .returned (parseV false A false ⟨D.toArray⟩ ((19 + 8 * M : Nat) : Int) 0) ∧ Below w.heap.size w w' := by
  have z0' : 0 < s.size := by omega
  have hb0' := bit_at s 0 z0'
  rw [h0] at hb0'
  have c1a : ((s.size : Int) < 1) = False := eq_false (by omega)
  have c1b : decide ((s.size : Int) < 1) = false := decide_eq_false (by omega)
  have zi0 : (0 : Int) < s.size := by omega
  have c2a : ((s.size : Int) < 14) = False := eq_false (by omega)
  have c2b : decide ((s.size : Int) < 14) = false := decide_eq_false (by omega)
  have z13 : 13 < s.size := by omega
  have zi13 : (13 : Int) < s.size := by omega
  have hb13 := bit_at s 13 z13
  rw [h13] at hb13
  have z12 : 12 < s.size := by omega
  have zi12 : (12 : Int) < s.size := by omega
  have hb12 := bit_at s 12 z12
  rw [hR] at hb12
  have hAl : A < 2048 := by rw [← hA]; exact num_lt _ 1 11
  have HNUM := hid (show num64 (bitsOf (s.extract 1 12)) = A by rw [← hA]; exact num_part s 1 11 (by decide))
  have q1 : ((12 : Int) ≤ (s.size : Int)) = True := eq_true (by omega)
  have q2 : (12 ≤ s.size) = True := eq_true (by omega)
  have e6 : IntKind.u32.wrap (A : Int) = A := by rw [IntKind.wrap_u32]; omega
  have c4a : ((s.size : Int) < 19) = False := eq_false (by omega)
  have c4b : decide ((s.size : Int) < 19) = false := decide_eq_false (by omega)
  obtain ⟨m, hm⟩ : ∃ m, numN (((bitsOf s).drop 15).take 4) = m := ⟨_, rfl⟩
  have hml : m < 16 := by rw [← hm]; exact num_lt _ 15 4
  have HNU4 := hid (show num64 (bitsOf (s.extract 15 19)) = m by rw [← hm]; exact num_part s 15 4 (by decide))
  have r1 : ((19 : Int) ≤ (s.size : Int)) = True := eq_true (by omega)
  have r2 : (19 ≤ s.size) = True := eq_true (by omega)
  have b0 : 0 ≤ (m : Int) := Int.natCast_nonneg _
  have b1 : (m : Int) ≤ 15 := by omega
  have hM' : min m 8 = M := by rw [← hm]; exact hM
  have hite : (if 8 < (m : Int) then (8 : Int) else (m : Int)) = (M : Int) := by split <;> omega
  have hM8 : M ≤ 8 := by omega
  have b2 : IntKind.i64.wrap (M : Int) = M := by rw [IntKind.wrap_i64]; omega
  have b3 : IntKind.i64.wrap (8 * (M : Int)) = 8 * (M : Int) := by rw [IntKind.wrap_i64]; omega
  have b4 : IntKind.i64.wrap (19 + 8 * (M : Int)) = 19 + 8 * (M : Int) := by rw [IntKind.wrap_i64]; omega
  have c5a : ((s.size : Int) < 19 + 8 * (M : Int)) = False := eq_false (by omega)
  have c5b : decide ((s.size : Int) < 19 + 8 * (M : Int)) = false := decide_eq_false (by omega)
  have d1 : ((19 + 8 * (M : Int)) ≤ (s.size : Int)) = True := eq_true (by omega)
  have d2 : (19 + 8 * M ≤ s.size) = True := eq_true (by omega)
  have d3 : ((19 : Int) ≤ (19 + 8 * (M : Int))) = True := eq_true (by omega)
  have d4 : (19 + 8 * (M : Int)).toNat = 19 + 8 * M := by omega
  have HBY := hid (show toB (bitsOf (s.extract 19 (19 + 8 * M))) = D by rw [← hD, bits_extract, Nat.add_sub_cancel_left])
  clear h0 h13 hA hAl h14 hR hat hm hml hM' hM8 hM hlow hD
  have HITE := hid hite
  have hb0 := Blk.new w [.bool false, .int .u32 0, .bool false, .string ⟨#[]⟩] 35
  have HBL := (Below.refl w.heap.size w).alloc (Nat.le_refl _) (.cells #[.bool false, .int .u32 0, .bool false, .string ⟨#[]⟩] 35)
  go_enter Tryz.func94, Tryz.ntmps94
  go_wp2_with fail
  refine (rnum_calls _ _ (by rw [ByteArray.size_extract]; omega)).mono ?_
  rintro e w1 ⟨rfl, hb1⟩
  rw [HNUM.out]
  have hx := (hb0.below hb1)
  have HB1 := HBL.trans (hb1.mono HBL.size)
  have hr0 : w.heap.size < w1.heap.size := hx.lt
  clear hb0 hb1 HBL
  generalize hw0 : w.heap.size = r0 at *
  have HW0 := hid hw0
  clear hw0
  have hX := Blk.new w1 [.bool false, .int .u32 A, .bool false, .string ⟨#[]⟩] 35
  have hR0 := hx.alloc (.cells #[.bool false, .int .u32 A, .bool false, .string ⟨#[]⟩] 35)
  have HB2 := HB1.alloc (Nat.le_of_lt hr0) (.cells #[.bool false, .int .u32 A, .bool false, .string ⟨#[]⟩] 35)
  clear hx HB1
  go_wp2_with fail
  generalize hxx : w1.heap.size = x at *
  have hxr : r0 ≠ x := by omega
  have hrx : r0 ≤ x := by omega
  clear hr0 hxx
  refine (rnum_calls _ _ (by rw [ByteArray.size_extract]; omega)).mono ?_
  rintro e w3 ⟨rfl, hb3⟩
  rw [HNU4.out]
  have HB3 := HB2.trans (hb3.mono (Nat.le_of_lt hR0.lt))
  have hX3 := hX.below hb3
  have hR3 := hR0.below hb3
  clear hb3 hX hR0 HB2
  obtain ⟨x0, x1, x2, x3⟩ := frame_res hX3
  obtain ⟨f0, f1, f2, f3⟩ := frame_free hX3
  have HX := hid hX3
  have HR0 := hid hR3
  have HBB := hid HB3
  clear hX3 hR3 HB3
  go_wp2_with fail
  refine (rbytes_calls _ _ (by first | (rw [ByteArray.size_extract]; omega) | decide)).mono ?_
  rintro e w6 ⟨rfl, hb6⟩
  rw [HBY.out]
  have hX6 := HX.out.below hb6
  have hR6 := HR0.out.below hb6
  have hBW6 := HBB.out.trans (hb6.mono (Nat.le_of_lt HR0.out.lt))
  have hX7 := hX6.set 3 (.string ⟨D.toArray⟩)
  simp only [List.set_cons_zero, List.set_cons_succ] at hX7
  have hR7 := hR6.far (p := ⟨x, 3, none⟩) hxr (.string ⟨D.toArray⟩)
  have hBW7 := hBW6.setCell (p := ⟨x, 3, none⟩) (by exact hrx) (.string ⟨D.toArray⟩)
  clear x0 x1 x2 x3 f0 f1 f2 f3
  obtain ⟨u0, u1, u2, u3⟩ := frame_res hX6
  obtain ⟨v0, v1, v2, v3⟩ := frame_free hX6
  obtain ⟨s0, s1, s2, s3⟩ := frame_res hX7
  obtain ⟨t0, t1, t2, t3⟩ := frame_free hR7
  obtain ⟨r1', r2', r3', r4'⟩ := frame_res hR7
  have hz := frame_res (set4_blk hR7 false A false ⟨D.toArray⟩)
  have hbz := set4_below hBW7 (Nat.le_refl _) false A false ⟨D.toArray⟩
  unfold set4 at hz hbz
  have HZ := hid hz
  have HBZ := hid hbz
  clear hz hbz hb6 hX6 hR6 hBW6 hX7 hR7 hBW7 HX HR0 HBB
  go_wp2_with fail
  obtain ⟨z0, z1, z2, z3⟩ := HZ.out
  exact bodyPost_ret (v := parseV false A false ⟨D.toArray⟩ ((19 + 8 * M : Nat) : Int) 0) (by simp [results, Tryz.results94, go_sem, parseV, z0, z1, z2, z3]) rfl ⟨rfl, by rw [HW0.out]; exact HBZ.out⟩
set_option maxRecDepth 100000 in
set_option maxHeartbeats 3200000 in
theorem rparse_x_bad (s : ByteArray) (w : World) (hs : s.size ≤ 100000) (h14 : 14 ≤ s.size) (h0 : (bitsOf s).getD 0 false = false) (h13 : (bitsOf s).getD 13 false = true) (h12 : (bitsOf s).getD 12 false = false) :
    Calls Tryz.prog 94 #[.string s] w fun e w' => e = .returned (parseV false 0 false ⟨#[]⟩ 0 12) ∧ Below w.heap.size w w' := by
  obtain ⟨A, hA⟩ : ∃ A, numN (((bitsOf s).drop 1).take 11) = A := ⟨_, rfl⟩
  obtain ⟨B, hB⟩ : ∃ B, numN (((bitsOf s).drop 14).take 18) = B := ⟨_, rfl⟩
  have z0' : 0 < s.size := by omega
  have hb0' := bit_at s 0 z0'
  rw [h0] at hb0'
  have c1a : ((s.size : Int) < 1) = False := eq_false (by omega)
  have c1b : decide ((s.size : Int) < 1) = false := decide_eq_false (by omega)
  have zi0 : (0 : Int) < s.size := by omega
  have c2a : ((s.size : Int) < 14) = False := eq_false (by omega)
  have c2b : decide ((s.size : Int) < 14) = false := decide_eq_false (by omega)
  have z13 : 13 < s.size := by omega
  have zi13 : (13 : Int) < s.size := by omega
  have hb13 := bit_at s 13 z13
  rw [h13] at hb13
  have z12 : 12 < s.size := by omega
  have zi12 : (12 : Int) < s.size := by omega
  have hb12 := bit_at s 12 z12
  have hb12' : (((s[12]'z12).toNat : Int) != 49) = true := by rw [bne, hb12, h12]; rfl
  rw [h12] at hb12
  have hAl : A < 2048 := by rw [← hA]; exact num_lt _ 1 11
  have HNUM := hid (show num64 (bitsOf (s.extract 1 12)) = A by rw [← hA]; exact num_part s 1 11 (by decide))
  have q1 : ((12 : Int) ≤ (s.size : Int)) = True := eq_true (by omega)
  have q2 : (12 ≤ s.size) = True := eq_true (by omega)
  have e6 : IntKind.u32.wrap (A : Int) = A := by rw [IntKind.wrap_u32]; omega
  clear h0 h13 hA hAl h14 h12 hB
  have hb0 := Blk.new w [.bool false, .int .u32 0, .bool false, .string ⟨#[]⟩] 35
  have HBL := (Below.refl w.heap.size w).alloc (Nat.le_refl _) (.cells #[.bool false, .int .u32 0, .bool false, .string ⟨#[]⟩] 35)
  go_enter Tryz.func94, Tryz.ntmps94
  go_wp2_with fail
  refine (rnum_calls _ _ (by rw [ByteArray.size_extract]; omega)).mono ?_
  rintro e w1 ⟨rfl, hb1⟩
  rw [HNUM.out]
  have hx := (hb0.below hb1)
  have HB1 := HBL.trans (hb1.mono HBL.size)
  have hr0 : w.heap.size < w1.heap.size := hx.lt
  clear hb0 hb1 HBL
  generalize hw0 : w.heap.size = r0 at *
  have HW0 := hid hw0
  clear hw0
  obtain ⟨_, _, _, _⟩ := frame_res hx
  obtain ⟨_, _, _, _⟩ := frame_free hx
  have hz := frame_res ((set4_blk hx false 0 false ⟨#[]⟩).alloc (.cells #[.bool false, .int .u32 A, .bool false, .string ⟨#[]⟩] 35))
  have hbz := (set4_below HB1 (Nat.le_refl _) false 0 false ⟨#[]⟩).alloc (by simp [set4, World.setCell]; omega) (.cells #[.bool false, .int .u32 A, .bool false, .string ⟨#[]⟩] 35)
  unfold set4 at hz hbz
  have HZ := hid hz
  have HBZ := hid hbz
  clear hz hbz hx HB1
  go_wp2_with fail
  obtain ⟨z0, z1, z2, z3⟩ := HZ.out
  exact bodyPost_ret (v := parseV false 0 false ⟨#[]⟩ 0 12) (by simp [results, Tryz.results94, go_sem, parseV, z0, z1, z2, z3]) rfl ⟨rfl, by rw [HW0.out]; exact HBZ.out⟩
set_option maxRecDepth 100000 in
set_option maxHeartbeats 3200000 in
theorem rparse_x_r5 (s : ByteArray) (w : World) (hs : s.size ≤ 100000) (h14 : 14 ≤ s.size) (h0 : (bitsOf s).getD 0 false = false) (h13 : (bitsOf s).getD 13 false = true) (h12 : (bitsOf s).getD 12 false = true) (h33 : s.size < 33) :
    Calls Tryz.prog 94 #[.string s] w fun e w' => e = .returned (parseV false 0 false ⟨#[]⟩ 0 10) ∧ Below w.heap.size w w' := by
  obtain ⟨A, hA⟩ : ∃ A, numN (((bitsOf s).drop 1).take 11) = A := ⟨_, rfl⟩
  obtain ⟨B, hB⟩ : ∃ B, numN (((bitsOf s).drop 14).take 18) = B := ⟨_, rfl⟩
  have z0' : 0 < s.size := by omega
  have hb0' := bit_at s 0 z0'
  rw [h0] at hb0'
  have c1a : ((s.size : Int) < 1) = False := eq_false (by omega)
  have c1b : decide ((s.size : Int) < 1) = false := decide_eq_false (by omega)
  have zi0 : (0 : Int) < s.size := by omega
  have c2a : ((s.size : Int) < 14) = False := eq_false (by omega)
  have c2b : decide ((s.size : Int) < 14) = false := decide_eq_false (by omega)
  have z13 : 13 < s.size := by omega
  have zi13 : (13 : Int) < s.size := by omega
  have hb13 := bit_at s 13 z13
  rw [h13] at hb13
  have z12 : 12 < s.size := by omega
  have zi12 : (12 : Int) < s.size := by omega
  have hb12 := bit_at s 12 z12
  have hb12' : (((s[12]'z12).toNat : Int) != 49) = false := by rw [bne, hb12, h12]; rfl
  rw [h12] at hb12
  have c3a : ((s.size : Int) < 33) = True := eq_true (by omega)
  have c3b : decide ((s.size : Int) < 33) = true := decide_eq_true (by omega)
  have hAl : A < 2048 := by rw [← hA]; exact num_lt _ 1 11
  have HNUM := hid (show num64 (bitsOf (s.extract 1 12)) = A by rw [← hA]; exact num_part s 1 11 (by decide))
  have q1 : ((12 : Int) ≤ (s.size : Int)) = True := eq_true (by omega)
  have q2 : (12 ≤ s.size) = True := eq_true (by omega)
  have e6 : IntKind.u32.wrap (A : Int) = A := by rw [IntKind.wrap_u32]; omega
  clear h0 h13 hA hAl h14 h12 hB h33
  have hb0 := Blk.new w [.bool false, .int .u32 0, .bool false, .string ⟨#[]⟩] 35
  have HBL := (Below.refl w.heap.size w).alloc (Nat.le_refl _) (.cells #[.bool false, .int .u32 0, .bool false, .string ⟨#[]⟩] 35)
  go_enter Tryz.func94, Tryz.ntmps94
  go_wp2_with fail
  refine (rnum_calls _ _ (by rw [ByteArray.size_extract]; omega)).mono ?_
  rintro e w1 ⟨rfl, hb1⟩
  rw [HNUM.out]
  have hx := (hb0.below hb1)
  have HB1 := HBL.trans (hb1.mono HBL.size)
  have hr0 : w.heap.size < w1.heap.size := hx.lt
  clear hb0 hb1 HBL
  generalize hw0 : w.heap.size = r0 at *
  have HW0 := hid hw0
  clear hw0
  obtain ⟨_, _, _, _⟩ := frame_res hx
  obtain ⟨_, _, _, _⟩ := frame_free hx
  have hz := frame_res ((set4_blk hx false 0 false ⟨#[]⟩).alloc (.cells #[.bool false, .int .u32 A, .bool false, .string ⟨#[]⟩] 35))
  have hbz := (set4_below HB1 (Nat.le_refl _) false 0 false ⟨#[]⟩).alloc (by simp [set4, World.setCell]; omega) (.cells #[.bool false, .int .u32 A, .bool false, .string ⟨#[]⟩] 35)
  unfold set4 at hz hbz
  have HZ := hid hz
  have HBZ := hid hbz
  clear hz hbz hx HB1
  go_wp2_with fail
  obtain ⟨z0, z1, z2, z3⟩ := HZ.out
  exact bodyPost_ret (v := parseV false 0 false ⟨#[]⟩ 0 10) (by simp [results, Tryz.results94, go_sem, parseV, z0, z1, z2, z3]) rfl ⟨rfl, by rw [HW0.out]; exact HBZ.out⟩
set_option maxRecDepth 100000 in
set_option maxHeartbeats 3200000 in
theorem rparse_x_a (s : ByteArray) (w : World) (hs : s.size ≤ 100000) (h14 : 33 ≤ s.size) (h0 : (bitsOf s).getD 0 false = false) (h13 : (bitsOf s).getD 13 false = true) (h12 : (bitsOf s).getD 12 false = true) (hat : s.size < 39) (R : Bool) (hR : (bitsOf s).getD 32 false = R) :
    Calls Tryz.prog 94 #[.string s] w fun e w' => e = .returned (parseV false 0 false ⟨#[]⟩ 0 10) ∧ Below w.heap.size w w' := by
  obtain ⟨A, hA⟩ : ∃ A, numN (((bitsOf s).drop 1).take 11) = A := ⟨_, rfl⟩
  obtain ⟨B, hB⟩ : ∃ B, numN (((bitsOf s).drop 14).take 18) = B := ⟨_, rfl⟩
  have z0' : 0 < s.size := by omega
  have hb0' := bit_at s 0 z0'
  rw [h0] at hb0'
  have c1a : ((s.size : Int) < 1) = False := eq_false (by omega)
  have c1b : decide ((s.size : Int) < 1) = false := decide_eq_false (by omega)
  have zi0 : (0 : Int) < s.size := by omega
  have c2a : ((s.size : Int) < 14) = False := eq_false (by omega)
  have c2b : decide ((s.size : Int) < 14) = false := decide_eq_false (by omega)
  have z13 : 13 < s.size := by omega
  have zi13 : (13 : Int) < s.size := by omega
  have hb13 := bit_at s 13 z13
  rw [h13] at hb13
  have z12 : 12 < s.size := by omega
  have zi12 : (12 : Int) < s.size := by omega
  have hb12 := bit_at s 12 z12
  have hb12' : (((s[12]'z12).toNat : Int) != 49) = false := by rw [bne, hb12, h12]; rfl
  rw [h12] at hb12
  have c3a : ((s.size : Int) < 33) = False := eq_false (by omega)
  have c3b : decide ((s.size : Int) < 33) = false := decide_eq_false (by omega)
  have z32 : 32 < s.size := by omega
  have zi32 : (32 : Int) < s.size := by omega
  have hb32 := bit_at s 32 z32
  rw [hR] at hb32
  have p1 : ((32 : Int) ≤ (s.size : Int)) = True := eq_true (by omega)
  have p2 : (32 ≤ s.size) = True := eq_true (by omega)
  have hAl : A < 2048 := by rw [← hA]; exact num_lt _ 1 11
  have HNUM := hid (show num64 (bitsOf (s.extract 1 12)) = A by rw [← hA]; exact num_part s 1 11 (by decide))
  have q1 : ((12 : Int) ≤ (s.size : Int)) = True := eq_true (by omega)
  have q2 : (12 ≤ s.size) = True := eq_true (by omega)
  have e6 : IntKind.u32.wrap (A : Int) = A := by rw [IntKind.wrap_u32]; omega
  have hBl : B < 262144 := by rw [← hB]; exact num_lt _ 14 18
  have HNUB := hid (show num64 (bitsOf (s.extract 14 32)) = B by rw [← hB]; exact num_part s 14 18 (by decide))
  have HID := hid (id_join A B hAl hBl)
  have e7 : IntKind.u32.wrap (B : Int) = B := by rw [IntKind.wrap_u32]; omega
  have c4a : ((s.size : Int) < 39) = True := eq_true (by omega)
  have c4b : decide ((s.size : Int) < 39) = true := decide_eq_true (by omega)
  clear h0 h13 hA hAl h14 h12 hB hBl hR hat
  have hb0 := Blk.new w [.bool false, .int .u32 0, .bool false, .string ⟨#[]⟩] 35
  have HBL := (Below.refl w.heap.size w).alloc (Nat.le_refl _) (.cells #[.bool false, .int .u32 0, .bool false, .string ⟨#[]⟩] 35)
  go_enter Tryz.func94, Tryz.ntmps94
  go_wp2_with fail
  refine (rnum_calls _ _ (by rw [ByteArray.size_extract]; omega)).mono ?_
  rintro e w1 ⟨rfl, hb1⟩
  rw [HNUM.out]
  have hx := (hb0.below hb1)
  have HB1 := HBL.trans (hb1.mono HBL.size)
  have hr0 : w.heap.size < w1.heap.size := hx.lt
  clear hb0 hb1 HBL
  generalize hw0 : w.heap.size = r0 at *
  have HW0 := hid hw0
  clear hw0
  have hX := Blk.new w1 [.bool true, .int .u32 A, .bool false, .string ⟨#[]⟩] 35
  have hR0 := hx.alloc (.cells #[.bool true, .int .u32 A, .bool false, .string ⟨#[]⟩] 35)
  have HB2 := HB1.alloc (Nat.le_of_lt hr0) (.cells #[.bool true, .int .u32 A, .bool false, .string ⟨#[]⟩] 35)
  clear hx HB1
  go_wp2_with fail
  generalize hxx : w1.heap.size = x at *
  have hxr : r0 ≠ x := by omega
  have hrx : r0 ≤ x := by omega
  clear hr0 hxx
  generalize w1.alloc (.cells #[.bool true, .int .u32 A, .bool false, .string ⟨#[]⟩] 35) = W5 at *
  refine region_text (by kernel_rfl) (by kernel_rfl) (fun b _ W => (∃ v, Blk W x 35 [.bool true, .int .u32 v, .bool false, .string ⟨#[]⟩] ∧ (b 9 = false → v = A) ∧ (b 9 = true → v = ((A * 262144 + B : Nat) : Int))) ∧ Blk W r0 35 [.bool false, .int .u32 0, .bool false, .string ⟨#[]⟩] ∧ Below r0 w W) ⟨⟨_, hX.drew, fun _ => rfl, fun h => by simp at h⟩, hR0.drew, HB2.drew⟩ ?_
  refine t_pure (.pointer (some ⟨x, 1, none⟩)) (fun _ => rfl) (fun b γ W h => h) (fun b γ W h _ => by go_simp) ?_
  refine t_run (.int .u32 A) (fun _ => rfl) (fun b γ W h hb _ hf => ⟨W, ?_, h⟩) ?_
  · obtain ⟨⟨v, h1, h2, _⟩, _⟩ := h
    obtain rfl := h2 (hf 9 _ rfl (by decide))
    obtain ⟨_, x1, _, _⟩ := frame_res h1
    go_simp
  refine t_pure (.int .u32 (A * 262144)) (fun _ => rfl) (fun b γ W h => h) (fun b γ W h _ => by have e8 := HID.out.1; go_simp) ?_
  refine t_pure (.string s) (fun _ => rfl) (fun b γ W h => h) (fun b γ W h _ => by go_simp) ?_
  refine t_pure (.string (s.extract 14 32)) (fun _ => rfl) (fun b γ W h => h) (fun b γ W h _ => by go_simp) ?_
  refine t_call (.int .u64 B) (fun _ => rfl) (f := 65) (args := #[.string (s.extract 14 32)]) (fun b γ W h _ => by go_simp) (fun b γ W h _ => (rnum_calls _ W (by rw [ByteArray.size_extract]; omega)).mono ?_) ?_
  · rintro e w2 ⟨rfl, hbw⟩
    obtain ⟨⟨v, h1, h2⟩, h3, h4⟩ := h
    exact ⟨by rw [HNUB.out], ⟨v, h1.below hbw, h2⟩, h3.below hbw, h4.trans (hbw.mono (Nat.le_of_lt h3.lt))⟩
  refine t_pure (.int .u32 B) (fun _ => rfl) (fun b γ W h => h) (fun b γ W h _ => by go_simp) ?_
  refine t_pure (.int .u32 ((A * 262144 + B : Nat) : Int)) (fun _ => rfl) (fun b γ W h => h) (fun b γ W h _ => by have e8 := HID.out.2; go_simp) ?_
  refine t_pure (.pointer (some ⟨x, 1, none⟩)) (fun _ => rfl) (fun b γ W h => h) (fun b γ W h _ => by go_simp) ?_
  refine t_store (fun _ => rfl) (fun b γ W h hb hn hf => ?_) ?_
  · obtain ⟨⟨v, h1, h2, _⟩, h3, h4⟩ := h
    obtain ⟨_, x1, _, _⟩ := frame_res h1
    obtain ⟨_, f1, _, _⟩ := frame_free h1
    refine ⟨W.setCell ⟨x, 1, none⟩ (.int .u32 ((A * 262144 + B : Nat) : Int)), by go_simp, ⟨_, h1.set 1 _, fun h => (by simp [up] at h), fun _ => rfl⟩, h3.far (p := ⟨x, 1, none⟩) hxr _, h4.setCell (p := ⟨x, 1, none⟩) (by exact hrx) _⟩
  refine t_end ?_
  intro bq gq w6 hall hS
  obtain ⟨⟨v, h1, _, h2⟩, h3, h4⟩ := hS
  obtain rfl := h2 (hall 9 (by decide))
  clear hall h2 hX hR0 HB2
  simp only [Act.put, List.setIfInBounds_toArray, List.set_cons_zero, List.set_cons_succ]
  generalize hI : A * 262144 + B = I at *
  have HI := hid hI
  clear hI
  obtain ⟨x0, x1, x2, x3⟩ := frame_res h1
  obtain ⟨f0, f1, f2, f3⟩ := frame_free h1
  have hX := h1.set 2 (.bool R)
  simp only [List.set_cons_zero, List.set_cons_succ] at hX
  have hR0 := h3.far (p := ⟨x, 2, none⟩) hxr (.bool R)
  have HB2 := h4.setCell (p := ⟨x, 2, none⟩) (by exact hrx) (.bool R)
  clear h1 h3 h4
  obtain ⟨_, _, _, _⟩ := frame_res hR0
  obtain ⟨_, _, _, _⟩ := frame_free hR0
  have hz := frame_res (set4_blk hR0 false 0 false ⟨#[]⟩)
  have hbz := set4_below HB2 (Nat.le_refl _) false 0 false ⟨#[]⟩
  unfold set4 at hz hbz
  have HZ := hid hz
  have HBZ := hid hbz
  clear hz hbz
  clear hX hR0 HB2
  go_wp2_with fail
  obtain ⟨z0, z1, z2, z3⟩ := HZ.out
  exact bodyPost_ret (v := parseV false 0 false ⟨#[]⟩ 0 10) (by simp [results, Tryz.results94, go_sem, parseV, z0, z1, z2, z3]) rfl ⟨rfl, by rw [HW0.out]; exact HBZ.out⟩
set_option maxRecDepth 100000 in
set_option maxHeartbeats 3200000 in
theorem rparse_x_rtr (s : ByteArray) (w : World) (hs : s.size ≤ 100000) (h14 : 33 ≤ s.size) (h0 : (bitsOf s).getD 0 false = false) (h13 : (bitsOf s).getD 13 false = true) (h12 : (bitsOf s).getD 12 false = true) (hat : 39 ≤ s.size) (hR : (bitsOf s).getD 32 false = true) (A : Nat) (hA : numN (((bitsOf s).drop 1).take 11) = A) (B : Nat) (hB : numN (((bitsOf s).drop 14).take 18) = B) :
    Calls Tryz.prog 94 #[.string s] w fun e w' => e = .returned (parseV true ((A * 262144 + B : Nat) : Int) true ⟨#[]⟩ 39 0) ∧ Below w.heap.size w w' := by
  have z0' : 0 < s.size := by omega
  have hb0' := bit_at s 0 z0'
  rw [h0] at hb0'
  have c1a : ((s.size : Int) < 1) = False := eq_false (by omega)
  have c1b : decide ((s.size : Int) < 1) = false := decide_eq_false (by omega)
  have zi0 : (0 : Int) < s.size := by omega
  have c2a : ((s.size : Int) < 14) = False := eq_false (by omega)
  have c2b : decide ((s.size : Int) < 14) = false := decide_eq_false (by omega)
  have z13 : 13 < s.size := by omega
  have zi13 : (13 : Int) < s.size := by omega
  have hb13 := bit_at s 13 z13
  rw [h13] at hb13
  have z12 : 12 < s.size := by omega
  have zi12 : (12 : Int) < s.size := by omega
  have hb12 := bit_at s 12 z12
  have hb12' : (((s[12]'z12).toNat : Int) != 49) = false := by rw [bne, hb12, h12]; rfl
  rw [h12] at hb12
  have c3a : ((s.size : Int) < 33) = False := eq_false (by omega)
  have c3b : decide ((s.size : Int) < 33) = false := decide_eq_false (by omega)
  have z32 : 32 < s.size := by omega
  have zi32 : (32 : Int) < s.size := by omega
  have hb32 := bit_at s 32 z32
  rw [hR] at hb32
  have p1 : ((32 : Int) ≤ (s.size : Int)) = True := eq_true (by omega)
  have p2 : (32 ≤ s.size) = True := eq_true (by omega)
  have hAl : A < 2048 := by rw [← hA]; exact num_lt _ 1 11
  have HNUM := hid (show num64 (bitsOf (s.extract 1 12)) = A by rw [← hA]; exact num_part s 1 11 (by decide))
  have q1 : ((12 : Int) ≤ (s.size : Int)) = True := eq_true (by omega)
  have q2 : (12 ≤ s.size) = True := eq_true (by omega)
  have e6 : IntKind.u32.wrap (A : Int) = A := by rw [IntKind.wrap_u32]; omega
  have hBl : B < 262144 := by rw [← hB]; exact num_lt _ 14 18
  have HNUB := hid (show num64 (bitsOf (s.extract 14 32)) = B by rw [← hB]; exact num_part s 14 18 (by decide))
  have HID := hid (id_join A B hAl hBl)
  have e7 : IntKind.u32.wrap (B : Int) = B := by rw [IntKind.wrap_u32]; omega
  have c4a : ((s.size : Int) < 39) = False := eq_false (by omega)
  have c4b : decide ((s.size : Int) < 39) = false := decide_eq_false (by omega)
  obtain ⟨m, hm⟩ : ∃ m, numN (((bitsOf s).drop 35).take 4) = m := ⟨_, rfl⟩
  have hml : m < 16 := by rw [← hm]; exact num_lt _ 35 4
  have HNU4 := hid (show num64 (bitsOf (s.extract 35 39)) = m by rw [← hm]; exact num_part s 35 4 (by decide))
  have r1 : ((39 : Int) ≤ (s.size : Int)) = True := eq_true (by omega)
  have r2 : (39 ≤ s.size) = True := eq_true (by omega)
  have b0 : 0 ≤ (m : Int) := Int.natCast_nonneg _
  have b1 : (m : Int) ≤ 15 := by omega
  obtain ⟨M, hM'⟩ : ∃ M, min m 8 = M := ⟨_, rfl⟩
  have hite : (if 8 < (m : Int) then (8 : Int) else (m : Int)) = (M : Int) := by split <;> omega
  have hM8 : M ≤ 8 := by omega
  have b2 : IntKind.i64.wrap (M : Int) = M := by rw [IntKind.wrap_i64]; omega
  have b3 : IntKind.i64.wrap (8 * (M : Int)) = 8 * (M : Int) := by rw [IntKind.wrap_i64]; omega
  have b4 : IntKind.i64.wrap (39 + 8 * (M : Int)) = 39 + 8 * (M : Int) := by rw [IntKind.wrap_i64]; omega
  have HBY := hid (show toB (bitsOf ByteArray.empty) = [] from rfl)
  clear h0 h13 hA hAl h14 h12 hB hBl hR hat hm hml hM' hM8
  have HITE := hid hite
  have hb0 := Blk.new w [.bool false, .int .u32 0, .bool false, .string ⟨#[]⟩] 35
  have HBL := (Below.refl w.heap.size w).alloc (Nat.le_refl _) (.cells #[.bool false, .int .u32 0, .bool false, .string ⟨#[]⟩] 35)
  go_enter Tryz.func94, Tryz.ntmps94
  go_wp2_with fail
  refine (rnum_calls _ _ (by rw [ByteArray.size_extract]; omega)).mono ?_
  rintro e w1 ⟨rfl, hb1⟩
  rw [HNUM.out]
  have hx := (hb0.below hb1)
  have HB1 := HBL.trans (hb1.mono HBL.size)
  have hr0 : w.heap.size < w1.heap.size := hx.lt
  clear hb0 hb1 HBL
  generalize hw0 : w.heap.size = r0 at *
  have HW0 := hid hw0
  clear hw0
  have hX := Blk.new w1 [.bool true, .int .u32 A, .bool false, .string ⟨#[]⟩] 35
  have hR0 := hx.alloc (.cells #[.bool true, .int .u32 A, .bool false, .string ⟨#[]⟩] 35)
  have HB2 := HB1.alloc (Nat.le_of_lt hr0) (.cells #[.bool true, .int .u32 A, .bool false, .string ⟨#[]⟩] 35)
  clear hx HB1
  go_wp2_with fail
  generalize hxx : w1.heap.size = x at *
  have hxr : r0 ≠ x := by omega
  have hrx : r0 ≤ x := by omega
  clear hr0 hxx
  generalize w1.alloc (.cells #[.bool true, .int .u32 A, .bool false, .string ⟨#[]⟩] 35) = W5 at *
  refine region_text (by kernel_rfl) (by kernel_rfl) (fun b _ W => (∃ v, Blk W x 35 [.bool true, .int .u32 v, .bool false, .string ⟨#[]⟩] ∧ (b 9 = false → v = A) ∧ (b 9 = true → v = ((A * 262144 + B : Nat) : Int))) ∧ Blk W r0 35 [.bool false, .int .u32 0, .bool false, .string ⟨#[]⟩] ∧ Below r0 w W) ⟨⟨_, hX.drew, fun _ => rfl, fun h => by simp at h⟩, hR0.drew, HB2.drew⟩ ?_
  refine t_pure (.pointer (some ⟨x, 1, none⟩)) (fun _ => rfl) (fun b γ W h => h) (fun b γ W h _ => by go_simp) ?_
  refine t_run (.int .u32 A) (fun _ => rfl) (fun b γ W h hb _ hf => ⟨W, ?_, h⟩) ?_
  · obtain ⟨⟨v, h1, h2, _⟩, _⟩ := h
    obtain rfl := h2 (hf 9 _ rfl (by decide))
    obtain ⟨_, x1, _, _⟩ := frame_res h1
    go_simp
  refine t_pure (.int .u32 (A * 262144)) (fun _ => rfl) (fun b γ W h => h) (fun b γ W h _ => by have e8 := HID.out.1; go_simp) ?_
  refine t_pure (.string s) (fun _ => rfl) (fun b γ W h => h) (fun b γ W h _ => by go_simp) ?_
  refine t_pure (.string (s.extract 14 32)) (fun _ => rfl) (fun b γ W h => h) (fun b γ W h _ => by go_simp) ?_
  refine t_call (.int .u64 B) (fun _ => rfl) (f := 65) (args := #[.string (s.extract 14 32)]) (fun b γ W h _ => by go_simp) (fun b γ W h _ => (rnum_calls _ W (by rw [ByteArray.size_extract]; omega)).mono ?_) ?_
  · rintro e w2 ⟨rfl, hbw⟩
    obtain ⟨⟨v, h1, h2⟩, h3, h4⟩ := h
    exact ⟨by rw [HNUB.out], ⟨v, h1.below hbw, h2⟩, h3.below hbw, h4.trans (hbw.mono (Nat.le_of_lt h3.lt))⟩
  refine t_pure (.int .u32 B) (fun _ => rfl) (fun b γ W h => h) (fun b γ W h _ => by go_simp) ?_
  refine t_pure (.int .u32 ((A * 262144 + B : Nat) : Int)) (fun _ => rfl) (fun b γ W h => h) (fun b γ W h _ => by have e8 := HID.out.2; go_simp) ?_
  refine t_pure (.pointer (some ⟨x, 1, none⟩)) (fun _ => rfl) (fun b γ W h => h) (fun b γ W h _ => by go_simp) ?_
  refine t_store (fun _ => rfl) (fun b γ W h hb hn hf => ?_) ?_
  · obtain ⟨⟨v, h1, h2, _⟩, h3, h4⟩ := h
    obtain ⟨_, x1, _, _⟩ := frame_res h1
    obtain ⟨_, f1, _, _⟩ := frame_free h1
    refine ⟨W.setCell ⟨x, 1, none⟩ (.int .u32 ((A * 262144 + B : Nat) : Int)), by go_simp, ⟨_, h1.set 1 _, fun h => (by simp [up] at h), fun _ => rfl⟩, h3.far (p := ⟨x, 1, none⟩) hxr _, h4.setCell (p := ⟨x, 1, none⟩) (by exact hrx) _⟩
  refine t_end ?_
  intro bq gq w6 hall hS
  obtain ⟨⟨v, h1, _, h2⟩, h3, h4⟩ := hS
  obtain rfl := h2 (hall 9 (by decide))
  clear hall h2 hX hR0 HB2
  simp only [Act.put, List.setIfInBounds_toArray, List.set_cons_zero, List.set_cons_succ]
  generalize hI : A * 262144 + B = I at *
  have HI := hid hI
  clear hI
  obtain ⟨x0, x1, x2, x3⟩ := frame_res h1
  obtain ⟨f0, f1, f2, f3⟩ := frame_free h1
  have hX := h1.set 2 (.bool true)
  simp only [List.set_cons_zero, List.set_cons_succ] at hX
  have hR0 := h3.far (p := ⟨x, 2, none⟩) hxr (.bool true)
  have HB2 := h4.setCell (p := ⟨x, 2, none⟩) (by exact hrx) (.bool true)
  clear h1 h3 h4
  have HX := hid hX
  have HR0 := hid hR0
  have HBB := hid HB2
  clear hX hR0 HB2
  go_wp2_with fail
  have hX := HX.out
  have hR0 := HR0.out
  have HB2 := HBB.out
  clear HX HR0 HBB x0 x1 x2 x3 f0 f1 f2 f3
  refine (rnum_calls _ _ (by rw [ByteArray.size_extract]; omega)).mono ?_
  rintro e w3 ⟨rfl, hb3⟩
  rw [HNU4.out]
  have HB3 := HB2.trans (hb3.mono (Nat.le_of_lt hR0.lt))
  have hX3 := hX.below hb3
  have hR3 := hR0.below hb3
  clear hb3 hX hR0 HB2
  obtain ⟨x0, x1, x2, x3⟩ := frame_res hX3
  obtain ⟨f0, f1, f2, f3⟩ := frame_free hX3
  have HX := hid hX3
  have HR0 := hid hR3
  have HBB := hid HB3
  clear hX3 hR3 HB3
  go_wp2_with fail
  refine (rbytes_calls _ _ (by first | (rw [ByteArray.size_extract]; omega) | decide)).mono ?_
  rintro e w6 ⟨rfl, hb6⟩
  rw [HBY.out]
  have hX6 := HX.out.below hb6
  have hR6 := HR0.out.below hb6
  have hBW6 := HBB.out.trans (hb6.mono (Nat.le_of_lt HR0.out.lt))
  have hX7 := hX6.set 3 (.string ⟨([] : List UInt8).toArray⟩)
  simp only [List.set_cons_zero, List.set_cons_succ] at hX7
  have hR7 := hR6.far (p := ⟨x, 3, none⟩) hxr (.string ⟨([] : List UInt8).toArray⟩)
  have hBW7 := hBW6.setCell (p := ⟨x, 3, none⟩) (by exact hrx) (.string ⟨([] : List UInt8).toArray⟩)
  clear x0 x1 x2 x3 f0 f1 f2 f3
  obtain ⟨u0, u1, u2, u3⟩ := frame_res hX6
  obtain ⟨v0, v1, v2, v3⟩ := frame_free hX6
  obtain ⟨s0, s1, s2, s3⟩ := frame_res hX7
  obtain ⟨t0, t1, t2, t3⟩ := frame_free hR7
  obtain ⟨r1', r2', r3', r4'⟩ := frame_res hR7
  have hz := frame_res (set4_blk hR7 true I true ⟨#[]⟩)
  have hbz := set4_below hBW7 (Nat.le_refl _) true I true ⟨#[]⟩
  unfold set4 at hz hbz
  have HZ := hid hz
  have HBZ := hid hbz
  clear hz hbz hb6 hX6 hR6 hBW6 hX7 hR7 hBW7 HX HR0 HBB
  go_wp2_with fail
  obtain ⟨z0, z1, z2, z3⟩ := HZ.out
  exact bodyPost_ret (v := parseV true I true ⟨#[]⟩ 39 0) (by simp [results, Tryz.results94, go_sem, parseV, z0, z1, z2, z3]) rfl ⟨by rw [HI.out], by rw [HW0.out]; exact HBZ.out⟩
set_option maxRecDepth 100000 in
set_option maxHeartbeats 3200000 in
theorem rparse_x_low (s : ByteArray) (w : World) (hs : s.size ≤ 100000) (h14 : 33 ≤ s.size) (h0 : (bitsOf s).getD 0 false = false) (h13 : (bitsOf s).getD 13 false = true) (h12 : (bitsOf s).getD 12 false = true) (hat : 39 ≤ s.size) (hR : (bitsOf s).getD 32 false = false) (M : Nat) (hM : min (numN (((bitsOf s).drop 35).take 4)) 8 = M) (hlow : s.size < 39 + 8 * M) :
    Calls Tryz.prog 94 #[.string s] w fun e w' => e = .returned (parseV false 0 false ⟨#[]⟩ 0 10) ∧ Below w.heap.size w w' := by
  obtain ⟨A, hA⟩ : ∃ A, numN (((bitsOf s).drop 1).take 11) = A := ⟨_, rfl⟩
  obtain ⟨B, hB⟩ : ∃ B, numN (((bitsOf s).drop 14).take 18) = B := ⟨_, rfl⟩
  have z0' : 0 < s.size := by omega
  have hb0' := bit_at s 0 z0'
  rw [h0] at hb0'
  have c1a : ((s.size : Int) < 1) = False := eq_false (by omega)
  have c1b : decide ((s.size : Int) < 1) = false := decide_eq_false (by omega)
  have zi0 : (0 : Int) < s.size := by omega
  have c2a : ((s.size : Int) < 14) = False := eq_false (by omega)
  have c2b : decide ((s.size : Int) < 14) = false := decide_eq_false (by omega)
  have z13 : 13 < s.size := by omega
  have zi13 : (13 : Int) < s.size := by omega
  have hb13 := bit_at s 13 z13
  rw [h13] at hb13
  have z12 : 12 < s.size := by omega
  have zi12 : (12 : Int) < s.size := by omega
  have hb12 := bit_at s 12 z12
  have hb12' : (((s[12]'z12).toNat : Int) != 49) = false := by rw [bne, hb12, h12]; rfl
  rw [h12] at hb12
  have c3a : ((s.size : Int) < 33) = False := eq_false (by omega)
  have c3b : decide ((s.size : Int) < 33) = false := decide_eq_false (by omega)
  have z32 : 32 < s.size := by omega
  have zi32 : (32 : Int) < s.size := by omega
  have hb32 := bit_at s 32 z32
  rw [hR] at hb32
  have p1 : ((32 : Int) ≤ (s.size : Int)) = True := eq_true (by omega)
  have p2 : (32 ≤ s.size) = True := eq_true (by omega)
  have hAl : A < 2048 := by rw [← hA]; exact num_lt _ 1 11
  have HNUM := hid (show num64 (bitsOf (s.extract 1 12)) = A by rw [← hA]; exact num_part s 1 11 (by decide))
  have q1 : ((12 : Int) ≤ (s.size : Int)) = True := eq_true (by omega)
  have q2 : (12 ≤ s.size) = True := eq_true (by omega)
  have e6 : IntKind.u32.wrap (A : Int) = A := by rw [IntKind.wrap_u32]; omega
  have hBl : B < 262144 := by rw [← hB]; exact num_lt _ 14 18
  have HNUB := hid (show num64 (bitsOf (s.extract 14 32)) = B by rw [← hB]; exact num_part s 14 18 (by decide))
  have HID := hid (id_join A B hAl hBl)
  have e7 : IntKind.u32.wrap (B : Int) = B := by rw [IntKind.wrap_u32]; omega
  have c4a : ((s.size : Int) < 39) = False := eq_false (by omega)
  have c4b : decide ((s.size : Int) < 39) = false := decide_eq_false (by omega)
  obtain ⟨m, hm⟩ : ∃ m, numN (((bitsOf s).drop 35).take 4) = m := ⟨_, rfl⟩
  have hml : m < 16 := by rw [← hm]; exact num_lt _ 35 4
  have HNU4 := hid (show num64 (bitsOf (s.extract 35 39)) = m by rw [← hm]; exact num_part s 35 4 (by decide))
  have r1 : ((39 : Int) ≤ (s.size : Int)) = True := eq_true (by omega)
  have r2 : (39 ≤ s.size) = True := eq_true (by omega)
  have b0 : 0 ≤ (m : Int) := Int.natCast_nonneg _
  have b1 : (m : Int) ≤ 15 := by omega
  have hM' : min m 8 = M := by rw [← hm]; exact hM
  have hite : (if 8 < (m : Int) then (8 : Int) else (m : Int)) = (M : Int) := by split <;> omega
  have hM8 : M ≤ 8 := by omega
  have b2 : IntKind.i64.wrap (M : Int) = M := by rw [IntKind.wrap_i64]; omega
  have b3 : IntKind.i64.wrap (8 * (M : Int)) = 8 * (M : Int) := by rw [IntKind.wrap_i64]; omega
  have b4 : IntKind.i64.wrap (39 + 8 * (M : Int)) = 39 + 8 * (M : Int) := by rw [IntKind.wrap_i64]; omega
  have c5a : ((s.size : Int) < 39 + 8 * (M : Int)) = True := eq_true (by omega)
  have c5b : decide ((s.size : Int) < 39 + 8 * (M : Int)) = true := decide_eq_true (by omega)
  clear h0 h13 hA hAl h14 h12 hB hBl hR hat hm hml hM' hM8 hM hlow
  have HITE := hid hite
  have hb0 := Blk.new w [.bool false, .int .u32 0, .bool false, .string ⟨#[]⟩] 35
  have HBL := (Below.refl w.heap.size w).alloc (Nat.le_refl _) (.cells #[.bool false, .int .u32 0, .bool false, .string ⟨#[]⟩] 35)
  go_enter Tryz.func94, Tryz.ntmps94
  go_wp2_with fail
  refine (rnum_calls _ _ (by rw [ByteArray.size_extract]; omega)).mono ?_
  rintro e w1 ⟨rfl, hb1⟩
  rw [HNUM.out]
  have hx := (hb0.below hb1)
  have HB1 := HBL.trans (hb1.mono HBL.size)
  have hr0 : w.heap.size < w1.heap.size := hx.lt
  clear hb0 hb1 HBL
  generalize hw0 : w.heap.size = r0 at *
  have HW0 := hid hw0
  clear hw0
  have hX := Blk.new w1 [.bool true, .int .u32 A, .bool false, .string ⟨#[]⟩] 35
  have hR0 := hx.alloc (.cells #[.bool true, .int .u32 A, .bool false, .string ⟨#[]⟩] 35)
  have HB2 := HB1.alloc (Nat.le_of_lt hr0) (.cells #[.bool true, .int .u32 A, .bool false, .string ⟨#[]⟩] 35)
  clear hx HB1
  go_wp2_with fail
  generalize hxx : w1.heap.size = x at *
  have hxr : r0 ≠ x := by omega
  have hrx : r0 ≤ x := by omega
  clear hr0 hxx
  generalize w1.alloc (.cells #[.bool true, .int .u32 A, .bool false, .string ⟨#[]⟩] 35) = W5 at *
  refine region_text (by kernel_rfl) (by kernel_rfl) (fun b _ W => (∃ v, Blk W x 35 [.bool true, .int .u32 v, .bool false, .string ⟨#[]⟩] ∧ (b 9 = false → v = A) ∧ (b 9 = true → v = ((A * 262144 + B : Nat) : Int))) ∧ Blk W r0 35 [.bool false, .int .u32 0, .bool false, .string ⟨#[]⟩] ∧ Below r0 w W) ⟨⟨_, hX.drew, fun _ => rfl, fun h => by simp at h⟩, hR0.drew, HB2.drew⟩ ?_
  refine t_pure (.pointer (some ⟨x, 1, none⟩)) (fun _ => rfl) (fun b γ W h => h) (fun b γ W h _ => by go_simp) ?_
  refine t_run (.int .u32 A) (fun _ => rfl) (fun b γ W h hb _ hf => ⟨W, ?_, h⟩) ?_
  · obtain ⟨⟨v, h1, h2, _⟩, _⟩ := h
    obtain rfl := h2 (hf 9 _ rfl (by decide))
    obtain ⟨_, x1, _, _⟩ := frame_res h1
    go_simp
  refine t_pure (.int .u32 (A * 262144)) (fun _ => rfl) (fun b γ W h => h) (fun b γ W h _ => by have e8 := HID.out.1; go_simp) ?_
  refine t_pure (.string s) (fun _ => rfl) (fun b γ W h => h) (fun b γ W h _ => by go_simp) ?_
  refine t_pure (.string (s.extract 14 32)) (fun _ => rfl) (fun b γ W h => h) (fun b γ W h _ => by go_simp) ?_
  refine t_call (.int .u64 B) (fun _ => rfl) (f := 65) (args := #[.string (s.extract 14 32)]) (fun b γ W h _ => by go_simp) (fun b γ W h _ => (rnum_calls _ W (by rw [ByteArray.size_extract]; omega)).mono ?_) ?_
  · rintro e w2 ⟨rfl, hbw⟩
    obtain ⟨⟨v, h1, h2⟩, h3, h4⟩ := h
    exact ⟨by rw [HNUB.out], ⟨v, h1.below hbw, h2⟩, h3.below hbw, h4.trans (hbw.mono (Nat.le_of_lt h3.lt))⟩
  refine t_pure (.int .u32 B) (fun _ => rfl) (fun b γ W h => h) (fun b γ W h _ => by go_simp) ?_
  refine t_pure (.int .u32 ((A * 262144 + B : Nat) : Int)) (fun _ => rfl) (fun b γ W h => h) (fun b γ W h _ => by have e8 := HID.out.2; go_simp) ?_
  refine t_pure (.pointer (some ⟨x, 1, none⟩)) (fun _ => rfl) (fun b γ W h => h) (fun b γ W h _ => by go_simp) ?_
  refine t_store (fun _ => rfl) (fun b γ W h hb hn hf => ?_) ?_
  · obtain ⟨⟨v, h1, h2, _⟩, h3, h4⟩ := h
    obtain ⟨_, x1, _, _⟩ := frame_res h1
    obtain ⟨_, f1, _, _⟩ := frame_free h1
    refine ⟨W.setCell ⟨x, 1, none⟩ (.int .u32 ((A * 262144 + B : Nat) : Int)), by go_simp, ⟨_, h1.set 1 _, fun h => (by simp [up] at h), fun _ => rfl⟩, h3.far (p := ⟨x, 1, none⟩) hxr _, h4.setCell (p := ⟨x, 1, none⟩) (by exact hrx) _⟩
  refine t_end ?_
  intro bq gq w6 hall hS
  obtain ⟨⟨v, h1, _, h2⟩, h3, h4⟩ := hS
  obtain rfl := h2 (hall 9 (by decide))
  clear hall h2 hX hR0 HB2
  simp only [Act.put, List.setIfInBounds_toArray, List.set_cons_zero, List.set_cons_succ]
  generalize hI : A * 262144 + B = I at *
  have HI := hid hI
  clear hI
  obtain ⟨x0, x1, x2, x3⟩ := frame_res h1
  obtain ⟨f0, f1, f2, f3⟩ := frame_free h1
  have hX := h1.set 2 (.bool false)
  simp only [List.set_cons_zero, List.set_cons_succ] at hX
  have hR0 := h3.far (p := ⟨x, 2, none⟩) hxr (.bool false)
  have HB2 := h4.setCell (p := ⟨x, 2, none⟩) (by exact hrx) (.bool false)
  clear h1 h3 h4
  have HX := hid hX
  have HR0 := hid hR0
  have HBB := hid HB2
  clear hX hR0 HB2
  go_wp2_with fail
  have hX := HX.out
  have hR0 := HR0.out
  have HB2 := HBB.out
  clear HX HR0 HBB x0 x1 x2 x3 f0 f1 f2 f3
  refine (rnum_calls _ _ (by rw [ByteArray.size_extract]; omega)).mono ?_
  rintro e w3 ⟨rfl, hb3⟩
  rw [HNU4.out]
  have HB3 := HB2.trans (hb3.mono (Nat.le_of_lt hR0.lt))
  have hX3 := hX.below hb3
  have hR3 := hR0.below hb3
  clear hb3 hX hR0 HB2
  obtain ⟨x0, x1, x2, x3⟩ := frame_res hX3
  obtain ⟨f0, f1, f2, f3⟩ := frame_free hX3
  obtain ⟨_, _, _, _⟩ := frame_res hR3
  obtain ⟨_, _, _, _⟩ := frame_free hR3
  have hz := frame_res (set4_blk hR3 false 0 false ⟨#[]⟩)
  have hbz := set4_below HB3 (Nat.le_refl _) false 0 false ⟨#[]⟩
  unfold set4 at hz hbz
  have HZ := hid hz
  have HBZ := hid hbz
  clear hz hbz
  clear hX3 hR3 HB3
  go_wp2_with fail
  obtain ⟨z0, z1, z2, z3⟩ := HZ.out
  exact bodyPost_ret (v := parseV false 0 false ⟨#[]⟩ 0 10) (by simp [results, Tryz.results94, go_sem, parseV, z0, z1, z2, z3]) rfl ⟨rfl, by rw [HW0.out]; exact HBZ.out⟩
set_option maxRecDepth 100000 in
set_option maxHeartbeats 3200000 in
theorem rparse_x_data (s : ByteArray) (w : World) (hs : s.size ≤ 100000) (h14 : 33 ≤ s.size) (h0 : (bitsOf s).getD 0 false = false) (h13 : (bitsOf s).getD 13 false = true) (h12 : (bitsOf s).getD 12 false = true) (hat : 39 ≤ s.size) (hR : (bitsOf s).getD 32 false = false) (M : Nat) (hM : min (numN (((bitsOf s).drop 35).take 4)) 8 = M) (hlow : 39 + 8 * M ≤ s.size) (A : Nat) (hA : numN (((bitsOf s).drop 1).take 11) = A) (B : Nat) (hB : numN (((bitsOf s).drop 14).take 18) = B) (D : List UInt8) (hD : toB (((bitsOf s).drop 39).take (8 * M)) = D) :
    Calls Tryz.prog 94 #[.string s] w fun e w' => e = .returned (parseV true ((A * 262144 + B : Nat) : Int) false ⟨D.toArray⟩ ((39 + 8 * M : Nat) : Int) 0) ∧ Below w.heap.size w w' := by
  have z0' : 0 < s.size := by omega
  have hb0' := bit_at s 0 z0'
  rw [h0] at hb0'
  have c1a : ((s.size : Int) < 1) = False := eq_false (by omega)
  have c1b : decide ((s.size : Int) < 1) = false := decide_eq_false (by omega)
  have zi0 : (0 : Int) < s.size := by omega
  have c2a : ((s.size : Int) < 14) = False := eq_false (by omega)
  have c2b : decide ((s.size : Int) < 14) = false := decide_eq_false (by omega)
  have z13 : 13 < s.size := by omega
  have zi13 : (13 : Int) < s.size := by omega
  have hb13 := bit_at s 13 z13
  rw [h13] at hb13
  have z12 : 12 < s.size := by omega
  have zi12 : (12 : Int) < s.size := by omega
  have hb12 := bit_at s 12 z12
  have hb12' : (((s[12]'z12).toNat : Int) != 49) = false := by rw [bne, hb12, h12]; rfl
  rw [h12] at hb12
  have c3a : ((s.size : Int) < 33) = False := eq_false (by omega)
  have c3b : decide ((s.size : Int) < 33) = false := decide_eq_false (by omega)
  have z32 : 32 < s.size := by omega
  have zi32 : (32 : Int) < s.size := by omega
  have hb32 := bit_at s 32 z32
  rw [hR] at hb32
  have p1 : ((32 : Int) ≤ (s.size : Int)) = True := eq_true (by omega)
  have p2 : (32 ≤ s.size) = True := eq_true (by omega)
  have hAl : A < 2048 := by rw [← hA]; exact num_lt _ 1 11
  have HNUM := hid (show num64 (bitsOf (s.extract 1 12)) = A by rw [← hA]; exact num_part s 1 11 (by decide))
  have q1 : ((12 : Int) ≤ (s.size : Int)) = True := eq_true (by omega)
  have q2 : (12 ≤ s.size) = True := eq_true (by omega)
  have e6 : IntKind.u32.wrap (A : Int) = A := by rw [IntKind.wrap_u32]; omega
  have hBl : B < 262144 := by rw [← hB]; exact num_lt _ 14 18
  have HNUB := hid (show num64 (bitsOf (s.extract 14 32)) = B by rw [← hB]; exact num_part s 14 18 (by decide))
  have HID := hid (id_join A B hAl hBl)
  have e7 : IntKind.u32.wrap (B : Int) = B := by rw [IntKind.wrap_u32]; omega
  have c4a : ((s.size : Int) < 39) = False := eq_false (by omega)
  have c4b : decide ((s.size : Int) < 39) = false := decide_eq_false (by omega)
  obtain ⟨m, hm⟩ : ∃ m, numN (((bitsOf s).drop 35).take 4) = m := ⟨_, rfl⟩
  have hml : m < 16 := by rw [← hm]; exact num_lt _ 35 4
  have HNU4 := hid (show num64 (bitsOf (s.extract 35 39)) = m by rw [← hm]; exact num_part s 35 4 (by decide))
  have r1 : ((39 : Int) ≤ (s.size : Int)) = True := eq_true (by omega)
  have r2 : (39 ≤ s.size) = True := eq_true (by omega)
  have b0 : 0 ≤ (m : Int) := Int.natCast_nonneg _
  have b1 : (m : Int) ≤ 15 := by omega
  have hM' : min m 8 = M := by rw [← hm]; exact hM
  have hite : (if 8 < (m : Int) then (8 : Int) else (m : Int)) = (M : Int) := by split <;> omega
  have hM8 : M ≤ 8 := by omega
  have b2 : IntKind.i64.wrap (M : Int) = M := by rw [IntKind.wrap_i64]; omega
  have b3 : IntKind.i64.wrap (8 * (M : Int)) = 8 * (M : Int) := by rw [IntKind.wrap_i64]; omega
  have b4 : IntKind.i64.wrap (39 + 8 * (M : Int)) = 39 + 8 * (M : Int) := by rw [IntKind.wrap_i64]; omega
  have c5a : ((s.size : Int) < 39 + 8 * (M : Int)) = False := eq_false (by omega)
  have c5b : decide ((s.size : Int) < 39 + 8 * (M : Int)) = false := decide_eq_false (by omega)
  have d1 : ((39 + 8 * (M : Int)) ≤ (s.size : Int)) = True := eq_true (by omega)
  have d2 : (39 + 8 * M ≤ s.size) = True := eq_true (by omega)
  have d3 : ((39 : Int) ≤ (39 + 8 * (M : Int))) = True := eq_true (by omega)
  have d4 : (39 + 8 * (M : Int)).toNat = 39 + 8 * M := by omega
  have HBY := hid (show toB (bitsOf (s.extract 39 (39 + 8 * M))) = D by rw [← hD, bits_extract, Nat.add_sub_cancel_left])
  clear h0 h13 hA hAl h14 h12 hB hBl hR hat hm hml hM' hM8 hM hlow hD
  have HITE := hid hite
  have hb0 := Blk.new w [.bool false, .int .u32 0, .bool false, .string ⟨#[]⟩] 35
  have HBL := (Below.refl w.heap.size w).alloc (Nat.le_refl _) (.cells #[.bool false, .int .u32 0, .bool false, .string ⟨#[]⟩] 35)
  go_enter Tryz.func94, Tryz.ntmps94
  go_wp2_with fail
  refine (rnum_calls _ _ (by rw [ByteArray.size_extract]; omega)).mono ?_
  rintro e w1 ⟨rfl, hb1⟩
  rw [HNUM.out]
  have hx := (hb0.below hb1)
  have HB1 := HBL.trans (hb1.mono HBL.size)
  have hr0 : w.heap.size < w1.heap.size := hx.lt
  clear hb0 hb1 HBL
  generalize hw0 : w.heap.size = r0 at *
  have HW0 := hid hw0
  clear hw0
  have hX := Blk.new w1 [.bool true, .int .u32 A, .bool false, .string ⟨#[]⟩] 35
  have hR0 := hx.alloc (.cells #[.bool true, .int .u32 A, .bool false, .string ⟨#[]⟩] 35)
  have HB2 := HB1.alloc (Nat.le_of_lt hr0) (.cells #[.bool true, .int .u32 A, .bool false, .string ⟨#[]⟩] 35)
  clear hx HB1
  go_wp2_with fail
  generalize hxx : w1.heap.size = x at *
  have hxr : r0 ≠ x := by omega
  have hrx : r0 ≤ x := by omega
  clear hr0 hxx
  generalize w1.alloc (.cells #[.bool true, .int .u32 A, .bool false, .string ⟨#[]⟩] 35) = W5 at *
  refine region_text (by kernel_rfl) (by kernel_rfl) (fun b _ W => (∃ v, Blk W x 35 [.bool true, .int .u32 v, .bool false, .string ⟨#[]⟩] ∧ (b 9 = false → v = A) ∧ (b 9 = true → v = ((A * 262144 + B : Nat) : Int))) ∧ Blk W r0 35 [.bool false, .int .u32 0, .bool false, .string ⟨#[]⟩] ∧ Below r0 w W) ⟨⟨_, hX.drew, fun _ => rfl, fun h => by simp at h⟩, hR0.drew, HB2.drew⟩ ?_
  refine t_pure (.pointer (some ⟨x, 1, none⟩)) (fun _ => rfl) (fun b γ W h => h) (fun b γ W h _ => by go_simp) ?_
  refine t_run (.int .u32 A) (fun _ => rfl) (fun b γ W h hb _ hf => ⟨W, ?_, h⟩) ?_
  · obtain ⟨⟨v, h1, h2, _⟩, _⟩ := h
    obtain rfl := h2 (hf 9 _ rfl (by decide))
    obtain ⟨_, x1, _, _⟩ := frame_res h1
    go_simp
  refine t_pure (.int .u32 (A * 262144)) (fun _ => rfl) (fun b γ W h => h) (fun b γ W h _ => by have e8 := HID.out.1; go_simp) ?_
  refine t_pure (.string s) (fun _ => rfl) (fun b γ W h => h) (fun b γ W h _ => by go_simp) ?_
  refine t_pure (.string (s.extract 14 32)) (fun _ => rfl) (fun b γ W h => h) (fun b γ W h _ => by go_simp) ?_
  refine t_call (.int .u64 B) (fun _ => rfl) (f := 65) (args := #[.string (s.extract 14 32)]) (fun b γ W h _ => by go_simp) (fun b γ W h _ => (rnum_calls _ W (by rw [ByteArray.size_extract]; omega)).mono ?_) ?_
  · rintro e w2 ⟨rfl, hbw⟩
    obtain ⟨⟨v, h1, h2⟩, h3, h4⟩ := h
    exact ⟨by rw [HNUB.out], ⟨v, h1.below hbw, h2⟩, h3.below hbw, h4.trans (hbw.mono (Nat.le_of_lt h3.lt))⟩
  refine t_pure (.int .u32 B) (fun _ => rfl) (fun b γ W h => h) (fun b γ W h _ => by go_simp) ?_
  refine t_pure (.int .u32 ((A * 262144 + B : Nat) : Int)) (fun _ => rfl) (fun b γ W h => h) (fun b γ W h _ => by have e8 := HID.out.2; go_simp) ?_
  refine t_pure (.pointer (some ⟨x, 1, none⟩)) (fun _ => rfl) (fun b γ W h => h) (fun b γ W h _ => by go_simp) ?_
  refine t_store (fun _ => rfl) (fun b γ W h hb hn hf => ?_) ?_
  · obtain ⟨⟨v, h1, h2, _⟩, h3, h4⟩ := h
    obtain ⟨_, x1, _, _⟩ := frame_res h1
    obtain ⟨_, f1, _, _⟩ := frame_free h1
    refine ⟨W.setCell ⟨x, 1, none⟩ (.int .u32 ((A * 262144 + B : Nat) : Int)), by go_simp, ⟨_, h1.set 1 _, fun h => (by simp [up] at h), fun _ => rfl⟩, h3.far (p := ⟨x, 1, none⟩) hxr _, h4.setCell (p := ⟨x, 1, none⟩) (by exact hrx) _⟩
  refine t_end ?_
  intro bq gq w6 hall hS
  obtain ⟨⟨v, h1, _, h2⟩, h3, h4⟩ := hS
  obtain rfl := h2 (hall 9 (by decide))
  clear hall h2 hX hR0 HB2
  simp only [Act.put, List.setIfInBounds_toArray, List.set_cons_zero, List.set_cons_succ]
  generalize hI : A * 262144 + B = I at *
  have HI := hid hI
  clear hI
  obtain ⟨x0, x1, x2, x3⟩ := frame_res h1
  obtain ⟨f0, f1, f2, f3⟩ := frame_free h1
  have hX := h1.set 2 (.bool false)
  simp only [List.set_cons_zero, List.set_cons_succ] at hX
  have hR0 := h3.far (p := ⟨x, 2, none⟩) hxr (.bool false)
  have HB2 := h4.setCell (p := ⟨x, 2, none⟩) (by exact hrx) (.bool false)
  clear h1 h3 h4
  have HX := hid hX
  have HR0 := hid hR0
  have HBB := hid HB2
  clear hX hR0 HB2
  go_wp2_with fail
  have hX := HX.out
  have hR0 := HR0.out
  have HB2 := HBB.out
  clear HX HR0 HBB x0 x1 x2 x3 f0 f1 f2 f3
  refine (rnum_calls _ _ (by rw [ByteArray.size_extract]; omega)).mono ?_
  rintro e w3 ⟨rfl, hb3⟩
  rw [HNU4.out]
  have HB3 := HB2.trans (hb3.mono (Nat.le_of_lt hR0.lt))
  have hX3 := hX.below hb3
  have hR3 := hR0.below hb3
  clear hb3 hX hR0 HB2
  obtain ⟨x0, x1, x2, x3⟩ := frame_res hX3
  obtain ⟨f0, f1, f2, f3⟩ := frame_free hX3
  have HX := hid hX3
  have HR0 := hid hR3
  have HBB := hid HB3
  clear hX3 hR3 HB3
  go_wp2_with fail
  refine (rbytes_calls _ _ (by first | (rw [ByteArray.size_extract]; omega) | decide)).mono ?_
  rintro e w6 ⟨rfl, hb6⟩
  rw [HBY.out]
  have hX6 := HX.out.below hb6
  have hR6 := HR0.out.below hb6
  have hBW6 := HBB.out.trans (hb6.mono (Nat.le_of_lt HR0.out.lt))
  have hX7 := hX6.set 3 (.string ⟨D.toArray⟩)
  simp only [List.set_cons_zero, List.set_cons_succ] at hX7
  have hR7 := hR6.far (p := ⟨x, 3, none⟩) hxr (.string ⟨D.toArray⟩)
  have hBW7 := hBW6.setCell (p := ⟨x, 3, none⟩) (by exact hrx) (.string ⟨D.toArray⟩)
  clear x0 x1 x2 x3 f0 f1 f2 f3
  obtain ⟨u0, u1, u2, u3⟩ := frame_res hX6
  obtain ⟨v0, v1, v2, v3⟩ := frame_free hX6
  obtain ⟨s0, s1, s2, s3⟩ := frame_res hX7
  obtain ⟨t0, t1, t2, t3⟩ := frame_free hR7
  obtain ⟨r1', r2', r3', r4'⟩ := frame_res hR7
  have hz := frame_res (set4_blk hR7 true I false ⟨D.toArray⟩)
  have hbz := set4_below hBW7 (Nat.le_refl _) true I false ⟨D.toArray⟩
  unfold set4 at hz hbz
  have HZ := hid hz
  have HBZ := hid hbz
  clear hz hbz hb6 hX6 hR6 hBW6 hX7 hR7 hBW7 HX HR0 HBB
  go_wp2_with fail
  obtain ⟨z0, z1, z2, z3⟩ := HZ.out
  exact bodyPost_ret (v := parseV true I false ⟨D.toArray⟩ ((39 + 8 * M : Nat) : Int) 0) (by simp [results, Tryz.results94, go_sem, parseV, z0, z1, z2, z3]) rfl ⟨by rw [HI.out], by rw [HW0.out]; exact HBZ.out⟩
end Go.Proofs.YtpkpnaedacefaaaGreat.FrameW

/- The walks of package ostinatoref3, continued: a frame read is the frame that the document tells. -/
namespace Go.Proofs.YtpkpnaedacefaaaGreat.FrameW
set_option linter.unusedVariables false
set_option linter.unusedSimpArgs false
open Go Go.RowKit Go.Proofs.YtpkpnaedacefaaaGreat.Lib Go.Proofs.YtpkpnaedacefaaaGreat.Bits Go.Proofs.YtpkpnaedacefaaaGreat.BitsW Go.Proofs.YtpkpnaedacefaaaGreat.Frame

theorem rparse_calls (s : ByteArray) (w : World) (hs : s.size ≤ 100000) :
    Calls Tryz.prog 94 #[.string s] w fun e w' => e = .returned (parseV (parseL (bitsOf s)).1.1 (parseL (bitsOf s)).1.2.1 (parseL (bitsOf s)).1.2.2.1 ⟨(parseL (bitsOf s)).1.2.2.2.toArray⟩ (parseL (bitsOf s)).2.1 (parseL (bitsOf s)).2.2) ∧ Below w.heap.size w w' := by
  have hl := bitsOf_length s
  by_cases h1 : s.size < 1
  · have hn : bitsOf s = [] := List.eq_nil_of_length_eq_zero (by omega)
    rw [hn]
    exact rparse_none s w hs h1
  cases h0 : (bitsOf s).getD 0 false
  case true =>
    rw [pl_one _ (by omega) h0]
    exact rparse_one s w hs (by omega) h0
  case false =>
  by_cases h14 : s.size < 14
  · rw [pl_of _ 0 (nl_short _ (by omega) h0) (.inl rfl)]
    exact rparse_short s w hs (by omega) h14 h0
  cases h13 : (bitsOf s).getD 13 false
  case false =>
    have hn := nl_s _ (by omega) h0 h13
    by_cases h19 : s.size < 19
    · rw [if_pos (by omega)] at hn
      rw [pl_of _ 0 hn (.inl rfl)]
      exact rparse_s_a s w hs (by omega) h0 h13 h19 _ rfl
    rw [if_neg (by omega)] at hn
    cases h12 : (bitsOf s).getD 12 false
    case true =>
      rw [if_pos h12] at hn
      rw [pl_s _ 19 hn (by decide) (by omega) h13, h12, show toB (((bitsOf s).drop 19).take (19 - 19)) = [] by rw [Nat.sub_self, List.take_zero]; rfl]
      exact rparse_s_rtr s w hs (by omega) h0 h13 (by omega) h12 _ rfl
    case false =>
      rw [if_neg (by rw [h12]; simp)] at hn
      obtain ⟨M, hM⟩ : ∃ M, min (numN (((bitsOf s).drop 15).take 4)) 8 = M := ⟨_, rfl⟩
      rw [hM] at hn
      by_cases hlow : s.size < 19 + 8 * M
      · rw [pl_of _ _ hn (.inr (by omega))]
        exact rparse_s_low s w hs (by omega) h0 h13 (by omega) h12 M hM hlow
      · rw [pl_s _ _ hn (by omega) (by omega) h13, h12]
        exact rparse_s_data s w hs (by omega) h0 h13 (by omega) h12 M hM (by omega) _ rfl _ (by rw [Nat.add_sub_cancel_left])
  case true =>
    cases h12 : (bitsOf s).getD 12 false
    case false =>
      have hn := nl_bad _ (by omega) h0 h13 h12
      have : parseL (bitsOf s) = ((false, 0, false, []), 0, 12) := by unfold parseL; rw [hn]; simp
      rw [this]
      exact rparse_x_bad s w hs (by omega) h0 h13 h12
    case true =>
    have hn := nl_x _ (by omega) h0 h13 h12
    by_cases h33 : s.size < 33
    · rw [if_pos (by omega)] at hn
      rw [pl_of _ 0 hn (.inl rfl)]
      exact rparse_x_r5 s w hs (by omega) h0 h13 h12 h33
    by_cases h39 : s.size < 39
    · rw [if_pos (by omega)] at hn
      rw [pl_of _ 0 hn (.inl rfl)]
      exact rparse_x_a s w hs (by omega) h0 h13 h12 h39 _ rfl
    rw [if_neg (by omega)] at hn
    cases h32 : (bitsOf s).getD 32 false
    case true =>
      rw [if_pos h32] at hn
      rw [pl_x _ 39 hn (by decide) (by omega) h13, h32, show toB (((bitsOf s).drop 39).take (39 - 39)) = [] by rw [Nat.sub_self, List.take_zero]; rfl]
      exact rparse_x_rtr s w hs (by omega) h0 h13 h12 (by omega) h32 _ rfl _ rfl
    case false =>
      rw [if_neg (by rw [h32]; simp)] at hn
      obtain ⟨M, hM⟩ : ∃ M, min (numN (((bitsOf s).drop 35).take 4)) 8 = M := ⟨_, rfl⟩
      rw [hM] at hn
      by_cases hlow : s.size < 39 + 8 * M
      · rw [pl_of _ _ hn (.inr (by omega))]
        exact rparse_x_low s w hs (by omega) h0 h13 h12 (by omega) h32 M hM hlow
      · rw [pl_x _ _ hn (by omega) (by omega) h13, h32]
        exact rparse_x_data s w hs (by omega) h0 h13 h12 (by omega) h32 M hM (by omega) _ rfl _ rfl _ (by rw [Nat.add_sub_cancel_left])
end Go.Proofs.YtpkpnaedacefaaaGreat.FrameW
