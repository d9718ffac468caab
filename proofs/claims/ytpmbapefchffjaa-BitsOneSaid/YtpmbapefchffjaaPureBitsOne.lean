/- BitsOne (layer 1): for every row of 127 bits, a bit turned changes the sum, and two places change it alike only if they are one. Conditions: none beyond the types of the arguments. -/
import Derived.Test.YtpmbapefchffjaaQBitsOnex
import Derived.Test.YtpmbapefchffjaaBitsFacts
namespace Go.Proofs.Ytpmbapefchffjaa.Pure
set_option linter.unusedVariables false
set_option linter.unusedSimpArgs false
open Go.RowKit Go.Proofs.Ytpmbapefchffjaa.QBitsOne Go.Proofs.YtpmbapefchffjaaW.PrintWords Go.Proofs.YtpmbapefchffjaaW.PrintLast Go.Proofs.YtpmbapefchffjaaW.PrintMore
open Go.Proofs.Ytpmbapefchffjaa.Facts Go.Proofs.Ytpmbapefchffjaa.Bits Go.Proofs.Ytpmbapefchffjaa.BitsW Go.Proofs.Ytpmbapefchffjaa.Plug

theorem known_tells : ostinatolaw1_known.f = some true := by decide +kernel

theorem BitsOne : ostinatolaw1_BitsOne.Pure := by
  intro n m x y hn hm hx hy
  have bx := bounds_u8 hx
  have by_ := bounds_u8 hy
  unfold ostinatolaw1_BitsOne.f
  have e63 : wid 63 = 63 := by decide
  have e64 : wid 64 = 64 := by decide
  rw [known_tells, of_f n _ hn, of_f m _ hm, e63, e64]
  have hxi : wrap64 (Int.tmod x 127) = ((x % 127).toNat : Int) := by
    rw [Int.tmod_eq_emod_of_nonneg bx.1]; unfold wrap64; omega
  have hyi : wrap64 (Int.tmod y 127) = ((y % 127).toNat : Int) := by
    rw [Int.tmod_eq_emod_of_nonneg by_.1]; unfold wrap64; omega
  obtain ⟨i, hi⟩ : ∃ i, (x % 127).toNat = i := ⟨_, rfl⟩
  obtain ⟨k, hk⟩ : ∃ k, (y % 127).toNat = k := ⟨_, rfl⟩
  have hi127 : i < 127 := by omega
  have hk127 : k < 127 := by omega
  rw [hxi, hyi, hi, hk]
  simp only [Option.bind_some, if_true, B_append, B_size]
  rw [if_pos (by rw [ofN_length, ofN_length]; omega)]
  generalize hs : ofN n.toNat 63 ++ ofN m.toNat 64 = s
  have hsl : s.length = 127 := by rw [← hs, List.length_append, ofN_length, ofN_length]
  have ht : ∀ j : Nat, j < 127 → turnI s (j : Int) = turn s j := by
    intro j hj
    unfold turnI
    rw [if_pos ⟨by omega, by omega⟩, Int.toNat_natCast]
  rw [turn_f s _ (by omega), turn_f s _ (by omega), ht i hi127, ht k hk127]
  simp only [Option.bind_some]
  rw [crc_f _ (by rw [turn_length]; omega), crc_f _ (by rw [turn_length]; omega), crc_f s (by omega)]
  simp only [Option.bind_some]
  rw [crc_turn, crc_turn, hsl]
  obtain ⟨h1, h2⟩ := units_apart ⟨i, hi127⟩ ⟨k, hk127⟩
  simp only at h1 h2
  have h3 : ∀ u, crcN s ^^^ u = crcN s → u = 0 := by
    intro u hu
    have := congrArg (fun z => crcN s ^^^ z) hu
    simpa [xor_cancel] using this
  have h4 : ∀ u v, crcN s ^^^ u = crcN s ^^^ v → u = v := by
    intro u v hu
    have := congrArg (fun z => crcN s ^^^ z) hu
    simpa [xor_cancel] using this
  rw [if_neg (fun h => h2 (h3 _ (by exact_mod_cast h)))]
  congr 1
  by_cases e : i = k
  · subst e; simp
  · have : ¬ crcN s ^^^ crcN (unit 127 i) = crcN s ^^^ crcN (unit 127 k) := fun h => e (by have := h1 (h4 _ _ h); simpa using this)
    have h5 : (((crcN s ^^^ crcN (unit 127 i) : Nat) : Int) == ((crcN s ^^^ crcN (unit 127 k) : Nat) : Int)) = false := beq_eq_false_iff_ne.2 (by exact_mod_cast this)
    have h6 : ((i : Int) == (k : Int)) = false := beq_eq_false_iff_ne.2 (by exact_mod_cast e)
    rw [h5, h6]
    rfl

end Go.Proofs.Ytpmbapefchffjaa.Pure
