/- BitsSplit (layer 1): for every number and every cut of its 64 bits the lower bits are the number's lowest, the higher ones the others; a width below 0 counts as 0, one above 64 as 64. Conditions: none beyond the types of the arguments. -/
import Derived.Test.YtpmbapefchffjaaQBitsSplitx
import Derived.Test.YtpmbapefchffjaaBitsFacts
namespace Go.Proofs.Ytpmbapefchffjaa.Pure
set_option linter.unusedVariables false
set_option linter.unusedSimpArgs false
open Go.RowKit Go.Proofs.Ytpmbapefchffjaa.QBitsSplit Go.Proofs.YtpmbapefchffjaaW.PrintWords Go.Proofs.YtpmbapefchffjaaW.PrintLast Go.Proofs.YtpmbapefchffjaaW.PrintMore
open Go.Proofs.Ytpmbapefchffjaa.Facts Go.Proofs.Ytpmbapefchffjaa.Bits Go.Proofs.Ytpmbapefchffjaa.BitsW Go.Proofs.Ytpmbapefchffjaa.Plug

theorem known_tells : ostinatolaw1_known.f = some true := by decide +kernel

theorem shl_pow (j : Nat) (h : j < 64) : shl .u64 1 (j : Int) = ((2 ^ j : Nat) : Int) := by
  unfold shl
  have h1 : min ((j : Int)).toNat IntKind.u64.bits = j := by simp [IntKind.bits]; omega
  have h2 : (2 : Nat) ^ j < 2 ^ 64 := Nat.pow_lt_pow_right (by omega) h
  rw [h1]
  have := wrap_u64 (2 ^ j) h2
  simpa using this
theorem shr_pow (n j : Nat) (h : j < 64) : shr .u64 (n : Int) (j : Int) = ((n / 2 ^ j : Nat) : Int) := by
  unfold shr
  have h1 : min ((j : Int)).toNat IntKind.u64.bits = j := by simp [IntKind.bits]; omega
  rw [h1]
  simp

theorem join (n c : Nat) (hn : n < 18446744073709551616) (hc : c ≤ 64) : ostinatolaw1_BitsSplit.j0 1 (n : Int) (c : Int) (B (ofN n 64)) ((n % 2 ^ c : Nat) : Int) = some true := by
  have hsub : wrap64 (64 - (c : Int)) = ((64 - c : Nat) : Int) := by unfold wrap64; omega
  have hcut := ofN_cut n (64 - c) c
  have e64 : 64 - c + c = 64 := by omega
  rw [e64] at hcut
  have hdrop : (ofN n 64).drop (64 - c) = ofN n c := by rw [hcut, List.drop_left' (ofN_length _ _)]
  have htake : (ofN n 64).take (64 - c) = ofN (n / 2 ^ c) (64 - c) := by rw [hcut, List.take_left' (ofN_length _ _)]
  have hx1 : (B (ofN n 64)).extract (64 - c) 64 = B (ofN n c) := by
    rw [B_extract, hdrop, List.take_of_length_le (by rw [ofN_length]; omega)]
  have hx2 : (B (ofN n 64)).extract 0 (64 - c) = B (ofN (n / 2 ^ c) (64 - c)) := by
    rw [B_extract, List.drop_zero, Nat.sub_zero, htake]
  have e0 : wid (-3) = 0 := by decide
  have e99 : wid 99 = 64 := by decide
  have hz : bits_Of.f (n : Int) (-3) = some (B []) := by rw [of_nat n _ hn, e0]; rfl
  have hm : bits_Of.f (n : Int) 99 = some (B (ofN n 64)) := by rw [of_nat n _ hn, e99]
  have hnum : num64 (ofN n c) = n % 2 ^ c := by rw [num64_small _ (by rw [ofN_length]; exact hc), numN_ofN]
  have hnum2 : num64 (ofN (n / 2 ^ c) (64 - c)) = n / 2 ^ c := by
    rw [num64_small _ (by rw [ofN_length]; omega), numN_ofN, Nat.mod_eq_of_lt]
    rw [Nat.div_lt_iff_lt_mul (Nat.two_pow_pos _), ← Nat.pow_add, e64]
    exact hn
  have hnil : (B []).toList = ([] : List UInt8) := by rw [B_list]; rfl
  rw [ostinatolaw1_BitsSplit.j0]
  rw [of_nat n _ hn, wid_of c hc, Option.bind_some, hsub, if_pos (by omega), B_size, ofN_length, if_pos (by omega), Int.toNat_natCast, hx1, if_pos rfl]
  rw [num_f _ (by rw [ofN_length]; omega), Option.bind_some, hnum, if_pos rfl]
  by_cases h0 : c = 0
  · rw [if_pos (by omega), hz, Option.bind_some, if_pos hnil, hm, Option.bind_some]
    exact congrArg some (beq_self_eq_true _)
  · rw [if_neg (by omega), hx2, num_f _ (by rw [ofN_length]; omega), Option.bind_some, hnum2]
    have hw : IntKind.u64.wrap (wrap64 ((c : Int) - 1)) = ((c - 1 : Nat) : Int) := by
      have : wrap64 ((c : Int) - 1) = ((c - 1 : Nat) : Int) := by unfold wrap64; omega
      rw [this, wrap_u64 _ (by omega)]
    have hd : shr .u64 ((n : Int) / 2) ((c - 1 : Nat) : Int) = ((n / 2 ^ c : Nat) : Int) := by
      have e : ((n : Int) / 2) = ((n / 2 : Nat) : Int) := by omega
      have e4 : 2 * 2 ^ (c - 1) = 2 ^ c := by
        clear hcut hdrop htake hx1 hx2 hz hm hnum hnum2 hnil hw e64 e0 e99 hsub
        obtain ⟨d, rfl⟩ : ∃ d, c = d + 1 := ⟨c - 1, by omega⟩
        rw [Nat.add_sub_cancel, Nat.pow_succ, Nat.mul_comm]
      rw [e, shr_pow _ _ (by omega), Nat.div_div_eq_div_mul, e4]
    rw [hw, if_pos (Int.natCast_nonneg _), hd, if_pos rfl, hz, Option.bind_some, if_pos hnil, hm, Option.bind_some]
    exact congrArg some (beq_self_eq_true _)

theorem BitsSplit : ostinatolaw1_BitsSplit.Pure := by
  intro n x hn hx
  have bx := bounds_u8 hx
  have bn := bounds_u64 hn
  obtain ⟨n, rfl⟩ := Int.eq_ofNat_of_zero_le bn.1
  have hn2 : n < 18446744073709551616 := by omega
  refine ⟨1, ?_⟩
  unfold ostinatolaw1_BitsSplit.f
  have e64 : wid 64 = 64 := by decide
  have hxi : wrap64 (Int.tmod x 65) = ((x % 65).toNat : Int) := by
    rw [Int.tmod_eq_emod_of_nonneg bx.1]; unfold wrap64; omega
  obtain ⟨c, hc⟩ : ∃ c, (x % 65).toNat = c := ⟨_, rfl⟩
  have hc64 : c ≤ 64 := by omega
  rw [known_tells, hxi, hc, Option.bind_some, if_pos rfl, of_nat n _ hn2, e64, Option.bind_some]
  by_cases h : c < 64
  · have hp : (2 : Nat) ^ c < 2 ^ 64 := Nat.pow_lt_pow_right (by omega) h
    have hp0 := Nat.two_pow_pos c
    have hw : IntKind.u64.wrap ((c : Nat) : Int) = ((c : Nat) : Int) := wrap_u64 c (by omega)
    have hs : IntKind.u64.wrap (((2 ^ c : Nat) : Int) - 1) = ((2 ^ c - 1 : Nat) : Int) := by
      have : (((2 ^ c : Nat) : Int) - 1) = ((2 ^ c - 1 : Nat) : Int) := by omega
      rw [this, wrap_u64 _ (by omega)]
    rw [if_pos (by omega), hw, if_pos (by omega), shl_pow c h, hs, (u64_ops n _ (by omega) (by omega)).1, Nat.and_two_pow_sub_one_eq_mod]
    exact join n c hn2 hc64
  · have : c = 64 := by omega
    subst this
    rw [if_neg (by omega)]
    have e : n % 2 ^ 64 = n := Nat.mod_eq_of_lt (by omega)
    have := join n 64 hn2 (by omega)
    rw [e] at this
    exact this

end Go.Proofs.Ytpmbapefchffjaa.Pure
