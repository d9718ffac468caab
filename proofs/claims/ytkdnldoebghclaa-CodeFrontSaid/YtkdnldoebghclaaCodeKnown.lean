/- Law 4's known frame. -/
import Derived.Test.YtkdnldoebghclaaCodeEncode
import Derived.Test.YtkdnldoebghclaaFrameMathB
import Derived.Test.YtkdnldoebghclaaWEqStruct
namespace Go.Proofs.Ytkdnldoebghclaa.CodeL
set_option linter.unusedVariables false
set_option linter.unusedSimpArgs false
open Go.Proofs.YtkdnldoebghclaaW.PrintWords
open Go Go.RowKit Go.Proofs.Ytkdnldoebghclaa.Lib Go.Proofs.Ytkdnldoebghclaa.Bits Go.Proofs.Ytkdnldoebghclaa.BitsW Go.Proofs.Ytkdnldoebghclaa.StuffW Go.Proofs.Ytkdnldoebghclaa.Frame Go.Proofs.Ytkdnldoebghclaa.FrameW Go.Proofs.Ytkdnldoebghclaa.Code Go.Proofs.Ytkdnldoebghclaa.CodeW Go.Proofs.YtkdnldoebghclaaW.PrintMore
def knownL : List Bool := codeL false 1365 false []
theorem k_ok : okF false 1365 false ⟨#[]⟩ = true := by decide +kernel
theorem k_len : knownL.length = 45 := by decide +kernel
theorem k_dec : decodeL Rd.zero 0 (knownL ++ [false]) = ((false, 1365, false, []), knownL.length, 0) := by decide +kernel
theorem k_ack : decodeL Rd.zero 0 (turnI knownL ((knownL.length : Int) - 10 + 1)) = ((false, 1365, false, []), knownL.length, 0) := by decide +kernel
theorem k_bad : decodeL Rd.zero 0 [false, false, false, false, false, false] = ((false, 0, false, []), 5, 20) := by decide +kernel
theorem k_short : decodeL Rd.zero 0 (knownL.take 20) = ((false, 0, false, []), 20, 10) := by decide +kernel
attribute [local go_sem] max2_int min2_int max_two min_two
theorem eqA24 (d : Nat) (w : World) (x0 y0 : Bool) (x1 y1 : Int) (x2 y2 : Bool) (x3 y3 : ByteArray) :
    (Op.equalIn (d + 2) 24 (.agg #[.bool x0, .int .u32 x1, .bool x2, .string x3]) (.agg #[.bool y0, .int .u32 y1, .bool y2, .string y3])).run Try.prog w = .ok (x0 == y0 && (x1 == y1 && (x2 == y2 && (x3.toList == y3.toList)))) w := by
  refine eqA_of Try.underlying24 (by kernel_rfl) ?_
  refine eqf_cons (by rfl) (by go_simp; rfl) (by go_simp; rfl) (by go_simp) ?_
  refine eqf_cons (by rfl) (by go_simp; rfl) (by go_simp; rfl) (by go_simp) ?_
  refine eqf_cons (by rfl) (by go_simp; rfl) (by go_simp; rfl) (by go_simp) ?_
  exact eqf_last (by rfl) (by go_simp; rfl) (by go_simp; rfl) (by go_simp)
attribute [local go_sem high] eqA24
/-- Decode, told by its answer. -/
theorem dec_of (s : ByteArray) (e : Bool) (n : Nat) (r : Bool) (d : List UInt8) (k c : Nat) (hs : s.size ≤ 140737488351232) (h : decodeL Rd.zero 0 (bitsOf s) = ((e, n, r, d), k, c)) (w : World) :
    Calls Try.prog 20 #[.string s] w fun x w' => x = .returned (.tuple #[.agg #[.bool e, .int .u32 n, .bool r, .string ⟨d.toArray⟩], .int .i64 k, .int .i64 c]) ∧ Below w.heap.size w w' := by
  have := decode_calls s w hs
  rw [h] at this
  exact this
theorem bits_app (x y : ByteArray) : bitsOf (x ++ y) = bitsOf x ++ bitsOf y := by simp [bitsOf]
def kS : ByteArray := B knownL
theorem ks_size : kS.size = 45 := by rw [kS, B_size, k_len]
theorem ks_enc : codeF false 1365 false ⟨#[]⟩ = kS := by unfold codeF; rw [if_pos k_ok]; rfl
theorem ks_ack : ackF false 1365 false ⟨#[]⟩ = B (turnI knownL ((knownL.length : Int) - 10 + 1)) := by unfold ackF; rw [if_pos k_ok]; rfl
theorem ks_cut : kS.extract 0 20 = B (knownL.take 20) := by rw [kS, Facts.B_extract, List.drop_zero]
theorem ks_end : kS.extract 35 45 = ⟨#[49, 49, 49, 49, 49, 49, 49, 49, 49, 49]⟩ := by decide +kernel
set_option maxRecDepth 100000 in
set_option maxHeartbeats 6400000 in
theorem known_calls (w : World) : Calls Try.prog 13 #[] w fun e w' => e = .returned (.bool true) ∧ Below w.heap.size w w' := by
  have H1 := Blk.new w [.bool false, .int .u32 1365, .bool false, .string ⟨#[]⟩] 24
  have HB := (Below.refl w.heap.size w).alloc (Nat.le_refl _) (.cells #[.bool false, .int .u32 1365, .bool false, .string ⟨#[]⟩] 24)
  have D1 := hid (dec_of (kS ++ ⟨#[48]⟩) false 1365 false [] 45 0 (by rw [ByteArray.size_append, ks_size]; decide) (by rw [bits_app, kS, bitsOf_B, ← k_len]; exact k_dec))
  have D2 := hid (dec_of (ackF false 1365 false ⟨#[]⟩) false 1365 false [] 45 0 (by rw [ks_ack, B_size]; decide +kernel) (by rw [ks_ack, bitsOf_B, ← k_len]; exact k_ack))
  have D3 := hid (dec_of ⟨#[48, 48, 48, 48, 48, 48]⟩ false 0 false [] 5 20 (by decide) k_bad)
  have D4 := hid (dec_of (kS.extract 0 20) false 0 false [] 20 10 (by rw [ks_cut, B_size, List.length_take]; omega) (by rw [ks_cut, bitsOf_B]; exact k_short))
  have HEN := hid (fun (W : World) => encode_calls false 1365 false ⟨#[]⟩ W (by decide))
  have HAC := hid (fun (W : World) => acked_calls false 1365 false ⟨#[]⟩ W (by decide))
  have HLE := hid (fun (W : World) => len_calls false 1365 false ⟨#[]⟩ W (by decide))
  simp only [Int.cast_ofNat_Int] at D1 D2 D3 D4
  rw [ks_enc] at HEN HLE
  rw [ks_size] at HLE
  have ksz := ks_size
  have kend := ks_end
  generalize ackF false 1365 false ⟨#[]⟩ = aS at *
  generalize kS = S at *
  go_enter Try.func13, Try.ntmps13
  go_wp2_with fail
  refine (HEN.out _).mono ?_
  rintro e w1 ⟨rfl, hb⟩
  have H1 := H1.below hb
  have HB := HB.trans (hb.mono HB.size)
  obtain ⟨x0, x1, x2, x3⟩ := frame_res H1
  clear hb
  go_wp2_with fail
  refine (D1.out _).mono ?_
  rintro e w2 ⟨rfl, hb⟩
  have HB := HB.trans (hb.mono HB.size)
  have HB := HB.alloc HB.size (.cells #[.bool false, .int .u32 1365, .bool false, .string ⟨#[]⟩] 24)
  have H3 := Blk.new w2 [.bool false, .int .u32 1365, .bool false, .string ⟨#[]⟩] 24
  have H1 := (H1.below hb).alloc (.cells #[.bool false, .int .u32 1365, .bool false, .string ⟨#[]⟩] 24)
  clear hb x0 x1 x2 x3
  obtain ⟨x0, x1, x2, x3⟩ := frame_res H1
  go_wp2_with fail
  refine (HAC.out _).mono ?_
  rintro e w3 ⟨rfl, hb⟩
  generalize w2.heap.size = g3 at *
  have HB := HB.trans (hb.mono HB.size)
  have H1 := H1.below hb
  have H3 := H3.below hb
  clear hb x0 x1 x2 x3
  go_wp2_with fail
  refine (D2.out _).mono ?_
  rintro e w4 ⟨rfl, hb⟩
  have HB := HB.trans (hb.mono HB.size)
  have HB := HB.alloc HB.size (.cells #[.bool false, .int .u32 1365, .bool false, .string ⟨#[]⟩] 24)
  have H6 := Blk.new w4 [.bool false, .int .u32 1365, .bool false, .string ⟨#[]⟩] 24
  have H1 := (H1.below hb).alloc (.cells #[.bool false, .int .u32 1365, .bool false, .string ⟨#[]⟩] 24)
  have H3 := (H3.below hb).alloc (.cells #[.bool false, .int .u32 1365, .bool false, .string ⟨#[]⟩] 24)
  clear hb
  go_wp2_with fail
  refine (D3.out _).mono ?_
  rintro e w5 ⟨rfl, hb⟩
  generalize w4.heap.size = g6 at *
  have HB := HB.trans (hb.mono HB.size)
  have HB := HB.alloc HB.size (.cells #[.bool false, .int .u32 0, .bool false, .string ⟨#[]⟩] 24)
  have H1 := (H1.below hb).alloc (.cells #[.bool false, .int .u32 0, .bool false, .string ⟨#[]⟩] 24)
  have H3 := (H3.below hb).alloc (.cells #[.bool false, .int .u32 0, .bool false, .string ⟨#[]⟩] 24)
  have H6 := (H6.below hb).alloc (.cells #[.bool false, .int .u32 0, .bool false, .string ⟨#[]⟩] 24)
  clear hb
  go_wp2_with fail
  refine (D4.out _).mono ?_
  rintro e w6 ⟨rfl, hb⟩
  have HB := HB.trans (hb.mono HB.size)
  have HB := HB.alloc HB.size (.cells #[.bool false, .int .u32 0, .bool false, .string ⟨#[]⟩] 24)
  have H1 := (H1.below hb).alloc (.cells #[.bool false, .int .u32 0, .bool false, .string ⟨#[]⟩] 24)
  have H3 := (H3.below hb).alloc (.cells #[.bool false, .int .u32 0, .bool false, .string ⟨#[]⟩] 24)
  have H6 := (H6.below hb).alloc (.cells #[.bool false, .int .u32 0, .bool false, .string ⟨#[]⟩] 24)
  clear hb
  obtain ⟨x0, x1, x2, x3⟩ := frame_res H1
  obtain ⟨y0, y1, y2, y3⟩ := frame_res H3
  obtain ⟨z0, z1, z2, z3⟩ := frame_res H6
  go_wp2_with fail
  refine (HLE.out _).mono ?_
  rintro e w7 ⟨rfl, hb⟩
  have HB := HB.trans (hb.mono HB.size)
  clear hb
  go_wp2_with fail
  go_ret
  exact ⟨rfl, HB⟩
end Go.Proofs.Ytkdnldoebghclaa.CodeL
