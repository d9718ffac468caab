/- FrameFields (layer 3): a frame's bits are its fields, each of so many bits, by the document's bits alone. Conditions: none beyond the types of the arguments; longer data is let pass. -/
import Derived.Test.YtdjlbdpajnlonaaQFrameFieldsx1
import Derived.OpenShut
namespace Go.Proofs.Ytdjlbdpajnlonaa.Pure
set_option linter.unusedVariables false
set_option linter.unusedSimpArgs false
open Go Go.RowKit Go.Proofs.Ytdjlbdpajnlonaa.Bits Go.Proofs.Ytdjlbdpajnlonaa.BitsW Go.Proofs.Ytdjlbdpajnlonaa.Frame Go.Proofs.Ytdjlbdpajnlonaa.FrameEq Go.Proofs.Ytdjlbdpajnlonaa.Facts Go.Proofs.Ytdjlbdpajnlonaa.Plug Go.Proofs.Ytdjlbdpajnlonaa.QFrameFields Go.Proofs.YtdjlbdpajnlonaaW.PrintWords Go.Proofs.YtdjlbdpajnlonaaW.PrintLast

theorem fields_at (r : Bool) (x y : Nat) (d : ByteArray) (hx : x < 2048) (hy : y < 536870912) (hd : d.size ≤ 8) (hr : r = true → d.size = 0) :
    ostinatolaw3_FrameFields.j0 1 r false (x : Int) r d true (y : Int) r d = some true := by
  have hsl := size_list d
  have hok1 : okF false (x : Int) r d = true := by
    unfold okF
    have h1 : ((x : Int) < 2048) := by omega
    have h2 : (r && d.size != 0) = false := by
      cases r
      · rfl
      · rw [hr rfl]; rfl
    simp only [h1, h2, hd, if_false, Bool.false_eq_true, decide_true, Bool.not_false, Bool.and_true]
  have hok2 : okF true (y : Int) r d = true := by
    unfold okF
    have h1 : ((y : Int) < 536870912) := by omega
    have h2 : (r && d.size != 0) = false := by
      cases r
      · rfl
      · rw [hr rfl]; rfl
    simp only [h1, h2, hd, if_true, decide_true, Bool.not_false, Bool.and_true]
  have e1 : ostinatoref1_Bit.f r = some (B [r]) := rfl
  have e2 := rofw (d.size : Int) 4 4 (by omega) (by omega) rfl
  have e3 := rfrom_ok d hd
  have e4 := rofw (x : Int) 11 11 (by omega) (by omega) rfl
  have e5 := rofw (y : Int) 29 29 (by omega) (by omega) rfl
  have b1 : frame_Body.f false (x : Int) r d = some (B (bodyL false x r d.data.toList)) := by
    unfold frame_Body.f bodyF; rw [if_pos ⟨by omega, by omega⟩, if_pos hok1, Int.toNat_natCast]
  have b2 : frame_Body.f true (y : Int) r d = some (B (bodyL true y r d.data.toList)) := by
    unfold frame_Body.f bodyF; rw [if_pos ⟨by omega, by omega⟩, if_pos hok2, Int.toNat_natCast]
  have a1 : frame_Arb.f false (x : Int) r d = some (B (arbL false x r)) := by
    unfold frame_Arb.f; rw [if_pos ⟨by omega, by omega⟩, arbF_ok hok1, Int.toNat_natCast]
  have a2 : frame_Arb.f true (y : Int) r d = some (B (arbL true y r)) := by
    unfold frame_Arb.f; rw [if_pos ⟨by omega, by omega⟩, arbF_ok hok2, Int.toNat_natCast]
  rw [Int.toNat_natCast] at e2 e4 e5
  have hfl : (fromB d.data.toList).length ≤ 64 := by rw [fromB_length]; omega
  have hcut : ofN y 29 = ofN (y / 262144) 11 ++ ofN y 18 := ofN_cut y 11 18
  have x1 : (B (ofN y 29)).extract 0 11 = B (ofN (y / 262144) 11) := by
    rw [B_extract, hcut, List.drop_zero, List.take_append_of_le_length (by rw [ofN_length]; omega), List.take_of_length_le (by rw [ofN_length]; omega)]
  have x2 : (B (ofN y 29)).extract 11 (B (ofN y 29)).size = B (ofN y 18) := by
    rw [B_extract, B_size, ofN_length, hcut, List.drop_append_of_le_length (by rw [ofN_length]; omega), List.drop_of_length_le (by rw [ofN_length]; omega), List.nil_append, List.take_of_length_le (by rw [ofN_length]; omega)]
  have s29 : ((B (ofN y 29)).size : Int) = 29 := by rw [B_size, ofN_length]; rfl
  rw [ostinatolaw3_FrameFields.j0, e1, Option.bind_some, e2, Option.bind_some, e3, Option.bind_some, if_pos (by rw [B_size, B_size, ofN_length]; omega), e4, Option.bind_some]
  simp only [z0, z1, z00, z11, B_append]
  rw [if_pos (by rw [B_size, ofN_length]; omega), if_pos (by rw [B_size, B_size]; simp [ofN_length]), if_pos (by rw [B_size]; simp [ofN_length]), if_pos (by rw [B_size, B_size]; simp [ofN_length]; omega), e5, Option.bind_some]
  rw [if_pos (by omega), if_pos (by rw [s29]; omega), x2, x1]
  simp only [B_append]
  rw [if_pos (by rw [B_size, ofN_length]; omega), if_pos (by rw [B_size]; simp [ofN_length]), if_pos (by rw [B_size, B_size]; simp [ofN_length]), if_pos (by rw [B_size, B_size]; simp [ofN_length]), if_pos (by rw [B_size]; simp [ofN_length]), if_pos (by rw [B_size, B_size]; simp [ofN_length]; omega)]
  rw [b1, Option.bind_some, if_pos (by rw [text_eq, B_eq]; simp [bodyL, arbL, hsl]), b2, Option.bind_some, if_pos (by rw [text_eq, B_eq]; simp [bodyL, arbL, hsl]), a1, Option.bind_some, if_pos (by rw [B_size, arbL_length]; rfl), a2, Option.bind_some, B_size, arbL_length]
  rfl
theorem FrameFields : ostinatolaw3_FrameFields.Pure := by
  intro a0 a1 a2 w0 hs
  have b0 := bounds_u32 w0
  obtain ⟨x, hx, hx2⟩ : ∃ x : Nat, Int.tmod a0 2048 = (x : Int) ∧ x < 2048 := ⟨(a0 % 2048).toNat, by rw [Int.tmod_eq_emod_of_nonneg b0.1]; omega, by omega⟩
  obtain ⟨y, hy, hy2⟩ : ∃ y : Nat, Int.tmod a0 536870912 = (y : Int) ∧ y < 536870912 := ⟨(a0 % 536870912).toNat, by rw [Int.tmod_eq_emod_of_nonneg b0.1]; omega, by omega⟩
  refine ⟨1, ?_⟩
  unfold ostinatolaw3_FrameFields.f
  rw [show ostinatolaw3_known.f = some true from rfl, Option.bind_some, if_pos rfl, hx, hy]
  by_cases h8 : (a2.size : Int) > 8
  · rw [if_pos h8]
  · rw [if_neg h8]
    cases a1
    · rw [if_neg (by simp)]
      exact fields_at false x y a2 hx2 hy2 (by omega) (fun h => by cases h)
    · rw [if_pos rfl]
      exact fields_at true x y ⟨#[]⟩ hx2 hy2 (by decide) (fun _ => rfl)
end Go.Proofs.Ytdjlbdpajnlonaa.Pure
