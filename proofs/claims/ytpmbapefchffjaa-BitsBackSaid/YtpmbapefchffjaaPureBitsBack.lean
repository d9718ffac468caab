/- BitsBack (layer 1): numbers and bytes written as bits are read as they were, a bit turned twice is as it was, for every number, every text of at most sixty bytes and every place. Conditions: none beyond the types of the arguments; a longer text is let pass. -/
import Derived.Test.YtpmbapefchffjaaQBitsBackx
import Derived.Test.YtpmbapefchffjaaBitsFacts
namespace Go.Proofs.Ytpmbapefchffjaa.Pure
set_option linter.unusedVariables false
set_option linter.unusedSimpArgs false
open Go.RowKit Go.Proofs.Ytpmbapefchffjaa.QBitsBack Go.Proofs.YtpmbapefchffjaaW.PrintWords Go.Proofs.YtpmbapefchffjaaW.PrintLast Go.Proofs.YtpmbapefchffjaaW.PrintMore
open Go.Proofs.Ytpmbapefchffjaa.Facts Go.Proofs.Ytpmbapefchffjaa.Bits Go.Proofs.Ytpmbapefchffjaa.BitsW Go.Proofs.Ytpmbapefchffjaa.Plug

theorem known_tells : ostinatolaw1_known.f = some true := by decide +kernel

theorem shl_pow (j : Nat) (h : j < 64) : shl .u64 1 (j : Int) = ((2 ^ j : Nat) : Int) := by
  unfold shl
  have h1 : min ((j : Int)).toNat IntKind.u64.bits = j := by simp [IntKind.bits]; omega
  have h2 : (2 : Nat) ^ j < 2 ^ 64 := Nat.pow_lt_pow_right (by omega) h
  rw [h1]
  have := wrap_u64 (2 ^ j) h2
  simpa using this

theorem num_turn (n i : Nat) (hn : n < 18446744073709551616) (hi : i < 64) : num64 (turn (ofN n 64) i) = n ^^^ 2 ^ (63 - i) := by
  have h2 : n ^^^ 2 ^ (63 - i) < 2 ^ 64 := Nat.xor_lt_two_pow (by omega) (Nat.pow_lt_pow_right (by omega) (by omega))
  have e : turn (ofN n 64) i = ofN (n ^^^ 2 ^ (63 - i)) 64 := by
    apply List.ext_getElem?
    intro j
    unfold turn
    rw [List.getElem?_modify]
    by_cases hj : j < 64
    · rw [ofN_get _ _ _ hj, ofN_get _ _ _ hj, Nat.testBit_xor, Nat.testBit_two_pow]
      by_cases e : i = j
      · subst e; simp
      · have : ¬ (63 - i = 64 - 1 - j) := by omega
        simp [e, this]
    · rw [List.getElem?_eq_none (by rw [ofN_length]; omega), List.getElem?_eq_none (by rw [ofN_length]; omega)]
      rfl
  rw [e, num64_ofN _ _ (by omega) (Nat.le_refl _)]

theorem BitsBack : ostinatolaw1_BitsBack.Pure := by
  intro n b x hn hb hx
  have bx := bounds_u8 hx
  have bn := bounds_u64 hn
  obtain ⟨n, rfl⟩ := Int.eq_ofNat_of_zero_le bn.1
  unfold ostinatolaw1_BitsBack.f
  rw [known_tells]
  simp only [Option.bind_some, if_true]
  by_cases hb60 : (b.size : Int) > 60
  · rw [if_pos hb60]
  rw [if_neg hb60]
  have e64 : wid 64 = 64 := by decide
  have hxi : wrap64 (Int.tmod x 64) = ((x % 64).toNat : Int) := by
    rw [Int.tmod_eq_emod_of_nonneg bx.1]; unfold wrap64; omega
  obtain ⟨i, hi⟩ : ∃ i, (x % 64).toNat = i := ⟨_, rfl⟩
  have hi64 : i < 64 := by omega
  have h63 : IntKind.u64.wrap (wrap64 (63 - (i : Int))) = ((63 - i : Nat) : Int) := by
    have : wrap64 (63 - (i : Int)) = ((63 - i : Nat) : Int) := by unfold wrap64; omega
    rw [this, wrap_u64 _ (by omega)]
  rw [hxi, hi, h63, of_nat n _ (by omega), e64]
  simp only [Option.bind_some]
  generalize hs : ofN n 64 = s
  have hsl : s.length = 64 := by rw [← hs, ofN_length]
  rw [turn_f s _ (by omega)]
  simp only [Option.bind_some]
  rw [num_f s (by omega)]
  simp only [Option.bind_some]
  rw [if_pos (by rw [← hs, num64_ofN n 64 (by omega) (Nat.le_refl _)]), B_size, if_pos (by omega), from_g b (by omega)]
  simp only [Option.bind_some]
  rw [bytes_f _ (by rw [fromB_length, size_list]; omega), toB_fromB]
  simp only [Option.bind_some]
  simp only [if_true]
  rw [turn_f _ _ (by rw [turnI_length]; omega), turnI_turnI]
  simp only [Option.bind_some, if_true]
  rw [num_f _ (by rw [turnI_length]; omega)]
  simp only [Option.bind_some]
  have ht : turnI s (i : Int) = turn s i := by
    unfold turnI
    rw [if_pos ⟨by omega, by omega⟩, Int.toNat_natCast]
  have hp : (2 : Nat) ^ (63 - i) < 2 ^ 64 := Nat.pow_lt_pow_right (by omega) (by omega)
  rw [if_pos (by omega), shl_pow _ (by omega), (u64_ops n _ (by omega) hp).2.2, ht, if_pos (by rw [← hs, num_turn n i (by omega) hi64])]
  rw [and_f s s (by omega) (by omega), zip_self]
  simp only [Option.bind_some, if_true]
  have t1 : turnI s 64 = s := by unfold turnI; rw [if_neg (by omega)]
  have t2 : turnI s (-1) = s := by unfold turnI; rw [if_neg (by omega)]
  rw [turn_f s _ (by omega), t1]
  simp only [Option.bind_some, if_true]
  rw [turn_f s _ (by omega), t2]
  simp

end Go.Proofs.Ytpmbapefchffjaa.Pure
