/- BitsNothing (layer 1): for all two numbers, every width and every number of noughts, a row of bits with its sum behind it has the sum 0, with noughts ahead it has the sum that it had, and a sum is less than 2^15. Conditions: none beyond the types of the arguments. -/
import Derived.Test.YtpmbapefchffjaaQBitsNothingx
import Derived.Test.YtpmbapefchffjaaBitsFacts
namespace Go.Proofs.Ytpmbapefchffjaa.Pure
set_option linter.unusedVariables false
set_option linter.unusedSimpArgs false
open Go.RowKit Go.Proofs.Ytpmbapefchffjaa.QBitsNothing Go.Proofs.YtpmbapefchffjaaW.PrintWords Go.Proofs.YtpmbapefchffjaaW.PrintLast Go.Proofs.YtpmbapefchffjaaW.PrintMore
open Go.Proofs.Ytpmbapefchffjaa.Facts Go.Proofs.Ytpmbapefchffjaa.Bits Go.Proofs.Ytpmbapefchffjaa.BitsW Go.Proofs.Ytpmbapefchffjaa.Plug

theorem known_tells : ostinatolaw1_known.f = some true := by decide +kernel

theorem BitsNothing : ostinatolaw1_BitsNothing.Pure := by
  intro n m x y hn hm hx hy
  have bx := bounds_u8 hx
  have by_ := bounds_u8 hy
  unfold ostinatolaw1_BitsNothing.f
  rw [known_tells, of_f n _ hn, of_f m _ hm, wid_mod x bx]
  obtain ⟨W, hW⟩ : ∃ W, (x % 65).toNat = W := ⟨_, rfl⟩
  have hW64 : W ≤ 64 := by omega
  rw [hW]
  have hz : bits_Of.f 0 (wrap64 (Int.tmod y 40)) = some (B (List.replicate (wid (wrap64 (Int.tmod y 40))) false)) := by
    rw [show (0 : Int) = ((0 : Nat) : Int) from rfl, of_nat 0 _ (by omega), ofN_zero]
  have hwz : wid (wrap64 (Int.tmod y 40)) ≤ 64 := by unfold wid; omega
  rw [hz]
  generalize wid (wrap64 (Int.tmod y 40)) = Z at *
  rw [Option.bind_some, if_pos rfl, Option.bind_some, Option.bind_some, B_append, B_size, B_size]
  generalize hs : ofN n.toNat W ++ ofN m.toNat W = s
  have hsl : s.length ≤ 128 := by rw [← hs, List.length_append, ofN_length, ofN_length]; omega
  have hc := crcN_lt s
  have hl1 : (ofN n.toNat W).length + (ofN m.toNat W).length = s.length := by rw [← hs, List.length_append]
  rw [if_pos (by rw [ofN_length, ofN_length]; omega), crc_f s (by omega), Option.bind_some]
  have hself := crc_self s
  have hahead := crcN_ahead Z s
  generalize crcN s = c at *
  have e15 : wid 15 = 15 := by decide
  rw [Option.bind_some, wrap_u64 c (by omega), of_nat c 15 (by omega), Option.bind_some, e15, B_append, B_size, B_append, B_size, B_size]
  rw [if_pos (by rw [ofN_length]; omega), crc_f _ (by rw [List.length_append, ofN_length]; omega), Option.bind_some, hself]
  rw [if_pos (show ((0 : Nat) : Int) = 0 from rfl), if_pos (by rw [List.length_replicate]; omega), crc_f _ (by rw [List.length_append, List.length_replicate]; omega), hahead, Option.bind_some, if_pos rfl]
  exact congrArg some (decide_eq_true (by omega))

end Go.Proofs.Ytpmbapefchffjaa.Pure
