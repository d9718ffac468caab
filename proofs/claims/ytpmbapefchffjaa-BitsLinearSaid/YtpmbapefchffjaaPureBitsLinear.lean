/- BitsLinear (layer 1): for all two numbers and every width the sum of the row of bits of both, turned where the other one has a 1, is both sums together. Conditions: none beyond the types of the arguments. -/
import Derived.Test.YtpmbapefchffjaaQBitsLinearx
import Derived.Test.YtpmbapefchffjaaBitsFacts
namespace Go.Proofs.Ytpmbapefchffjaa.Pure
set_option linter.unusedVariables false
set_option linter.unusedSimpArgs false
open Go.RowKit Go.Proofs.Ytpmbapefchffjaa.QBitsLinear Go.Proofs.YtpmbapefchffjaaW.PrintWords Go.Proofs.YtpmbapefchffjaaW.PrintLast Go.Proofs.YtpmbapefchffjaaW.PrintMore
open Go.Proofs.Ytpmbapefchffjaa.Facts Go.Proofs.Ytpmbapefchffjaa.Bits Go.Proofs.Ytpmbapefchffjaa.BitsW Go.Proofs.Ytpmbapefchffjaa.Plug

theorem known_tells : ostinatolaw1_known.f = some true := by decide +kernel

theorem BitsLinear : ostinatolaw1_BitsLinear.Pure := by
  intro n m x hn hm hx
  have bx := bounds_u8 hx
  have bn := bounds_u64 hn
  have bm := bounds_u64 hm
  obtain ⟨n, rfl⟩ := Int.eq_ofNat_of_zero_le bn.1
  obtain ⟨m, rfl⟩ := Int.eq_ofNat_of_zero_le bm.1
  unfold ostinatolaw1_BitsLinear.f
  have hxr : n ^^^ m < 2 ^ 64 := Nat.xor_lt_two_pow (by omega) (by omega)
  rw [known_tells, (u64_ops n m (by omega) (by omega)).2.2, of_nat n _ (by omega), of_nat m _ (by omega), of_nat (n ^^^ m) _ (by omega), wid_mod x bx]
  obtain ⟨W, hW⟩ : ∃ W, (x % 65).toNat = W := ⟨_, rfl⟩
  have hW64 : W ≤ 64 := by omega
  rw [hW]
  simp only [Option.bind_some, if_true]
  rw [crc_f _ (by rw [ofN_length]; omega), crc_f _ (by rw [ofN_length]; omega), crc_f _ (by rw [ofN_length]; omega)]
  simp only [Option.bind_some]
  have h1 := crcN_lt (ofN n W)
  have h2 := crcN_lt (ofN m W)
  rw [(u16_ops _ _ (by omega) (by omega)).2.2, ofN_xor, crcN_xor _ _ (by rw [ofN_length, ofN_length])]
  simp

end Go.Proofs.Ytpmbapefchffjaa.Pure
