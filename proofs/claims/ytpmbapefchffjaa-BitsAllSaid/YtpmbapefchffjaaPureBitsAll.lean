/- BitsAll (layer 1): in every text of at most 64 bytes what is no bit counts as 0, everywhere. Conditions: none beyond the types of the arguments; a longer text is let pass. -/
import Derived.Test.YtpmbapefchffjaaQBitsAllx
import Derived.Test.YtpmbapefchffjaaBitsFacts
namespace Go.Proofs.Ytpmbapefchffjaa.Pure
set_option linter.unusedVariables false
set_option linter.unusedSimpArgs false
open Go.RowKit Go.Proofs.Ytpmbapefchffjaa.QBitsAll Go.Proofs.YtpmbapefchffjaaW.PrintWords Go.Proofs.YtpmbapefchffjaaW.PrintLast Go.Proofs.YtpmbapefchffjaaW.PrintMore
open Go.Proofs.Ytpmbapefchffjaa.Facts Go.Proofs.Ytpmbapefchffjaa.Bits Go.Proofs.Ytpmbapefchffjaa.BitsW Go.Proofs.Ytpmbapefchffjaa.Plug

theorem known_tells : ostinatolaw1_known.f = some true := by decide +kernel

theorem isB_map (l : List Bool) : isB (l.map sg) = true := by
  unfold isB
  rw [List.all_eq_true]
  intro c hc
  obtain ⟨b, _, rfl⟩ := List.mem_map.1 hc
  cases b <;> rfl
theorem isB_iff (s : ByteArray) : isB s.data.toList = (s.toList == (B (bitsOf s)).toList) := by
  rw [Bool.eq_iff_iff, beq_iff_eq, B_list, Go.ByteArray.toList_eq]
  unfold bitsOf
  constructor
  · intro h
    unfold isB at h
    rw [List.all_eq_true] at h
    rw [List.map_map]
    conv => lhs; rw [← List.map_id s.data.toList]
    refine List.map_congr_left (fun c hc => ?_)
    have := h c hc
    simp only [Bool.or_eq_true, beq_iff_eq] at this
    rcases this with rfl | rfl <;> rfl
  · intro h
    rw [h]
    exact isB_map _
theorem all_end (k : Nat) (s : ByteArray) (at_ : Int) (hs : s.size ≤ 64) : ostinatolaw1_BitsAll.l0 (k + 1) s at_ (B (bitsOf s)) (s.size : Int) = some true := by
  have h0 : s.size ≤ 140737488351232 := by omega
  have hl : (bitsOf s).length ≤ 140737488351232 := by rw [bitsOf_length]; omega
  have hB : (B (bitsOf s)).size ≤ 140737488351232 := by rw [B_size]; exact hl
  rw [ostinatolaw1_BitsAll.l0, if_neg (by omega), is_g _ hB, Option.bind_some, B_toList, isB_map, if_pos rfl, num_g s h0, Option.bind_some, num_f _ hl, Option.bind_some, if_pos rfl, crc_g s h0, Option.bind_some, crc_f _ hl, Option.bind_some, if_pos rfl]
  rw [and_g s s h0 h0, Option.bind_some, zip_self, if_pos rfl, bytes_g s h0, Option.bind_some, bytes_f _ hl, Option.bind_some, if_pos rfl, turn_g s _ h0, Option.bind_some, turn_f _ _ hl, Option.bind_some, if_pos rfl, is_g s h0, Option.bind_some, isB_iff s]
  exact congrArg some (beq_self_eq_true _)
theorem all_from (s : ByteArray) (at_ : Int) (hs : s.size ≤ 64) (d : Nat) : ∀ (k i : Nat), i ≤ s.size → s.size - i = d → d < k →
    ostinatolaw1_BitsAll.l0 k s at_ (B ((bitsOf s).take i)) (i : Int) = some true := by
  induction d with
  | zero =>
    intro k i hi hd hk
    obtain ⟨k, rfl⟩ : ∃ m, k = m + 1 := ⟨k - 1, by omega⟩
    have e : i = s.size := by omega
    subst e
    rw [List.take_of_length_le (by rw [bitsOf_length]; exact Nat.le_refl _)]
    exact all_end k s at_ hs
  | succ d ih =>
    intro k i hi hd hk
    obtain ⟨k, rfl⟩ : ∃ m, k = m + 1 := ⟨k - 1, by omega⟩
    have hi2 : i < s.size := by omega
    have hst : wrap64 ((i : Int) + 1) = ((i + 1 : Nat) : Int) := by unfold wrap64; omega
    have hbt : bt s (i : Int) = ((s[i]'hi2).toNat : Int) := by unfold bt; rw [dif_pos (by simpa using hi2)]; rfl
    have hsn := bits_take_snoc s i hi2
    have hlen : ((bitsOf s).take i).length = i := by rw [List.length_take, bitsOf_length]; omega
    have h1 : (⟨#[49]⟩ : ByteArray) = B [true] := rfl
    have h2 : (⟨#[48]⟩ : ByteArray) = B [false] := rfl
    rw [ostinatolaw1_BitsAll.l0, if_pos (by omega), if_pos (by omega), hst, h1, h2, B_append, B_append, B_size, hlen, hbt]
    have hih := ih k (i + 1) (by omega) (by omega) (by omega)
    rw [hsn] at hih
    by_cases h : ((s[i]'hi2).toNat : Int) = 49
    · rw [if_pos h, if_pos (by omega)]
      rw [show (((s[i]'hi2).toNat : Int) == 49) = true from beq_iff_eq.2 h] at hih
      exact hih
    · rw [if_neg h, if_pos (by omega)]
      rw [show (((s[i]'hi2).toNat : Int) == 49) = false from beq_eq_false_iff_ne.2 h] at hih
      exact hih

theorem BitsAll : ostinatolaw1_BitsAll.Pure := by
  intro s at_ hs ha
  refine ⟨65, ?_⟩
  unfold ostinatolaw1_BitsAll.f
  rw [known_tells, Option.bind_some, if_pos rfl]
  by_cases h : (s.size : Int) > 64
  · rw [if_pos h]
  · rw [if_neg h]
    exact all_from s at_ (by omega) s.size 65 0 (by omega) (by omega) (by omega)

end Go.Proofs.Ytpmbapefchffjaa.Pure
