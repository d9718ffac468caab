/- StuffOpposite (layer 2): turned bits are laid between, taken away and told just as the bits themselves are, turned, for every text of at most two hundred bytes. Conditions: none beyond the types of the arguments; longer texts are let pass. -/
import Derived.Test.YtkclgfjfmlogmaaQStuffOppositex
import Derived.Test.YtkclgfjfmlogmaaStuffMath2
namespace Go.Proofs.Ytkclgfjfmlogmaa.Pure
set_option linter.unusedVariables false
set_option linter.unusedSimpArgs false
open Go.RowKit Go.Proofs.Ytkclgfjfmlogmaa.QStuffOpposite Go.Proofs.YtkclgfjfmlogmaaW.PrintWords Go.Proofs.YtkclgfjfmlogmaaW.PrintLast Go.Proofs.YtkclgfjfmlogmaaW.PrintMore
open Go.Proofs.Ytkclgfjfmlogmaa.Facts Go.Proofs.Ytkclgfjfmlogmaa.Bits Go.Proofs.Ytkclgfjfmlogmaa.BitsW Go.Proofs.Ytkclgfjfmlogmaa.Plug Go.Proofs.Ytkclgfjfmlogmaa.StuffW

theorem known_tells : ostinatolaw2_known.f = some true := by decide +kernel

theorem nums_bits (l : List Bool) : strOfNums (l.map fun c => if c then 48 else 49) = B (l.map not) := by
  unfold strOfNums
  apply ByteArray.ext
  apply Array.ext'
  simp only [List.map_map, B]
  refine List.map_congr_left (fun c _ => ?_)
  cases c <;> rfl
theorem turned_from (s : ByteArray) (hs : s.size ≤ 1000) (d : Nat) : ∀ (k i : Nat), i ≤ s.size → s.size - i = d → d < k →
    ostinatolaw2_turned.l0 k s (((bitsOf s).take i).map fun c => if c then 48 else 49) (i : Int) = some (B ((bitsOf s).map not)) := by
  have hb := bitsOf_length s
  induction d with
  | zero =>
    intro k i hi hd hk
    obtain ⟨k, rfl⟩ : ∃ m, k = m + 1 := ⟨k - 1, by omega⟩
    obtain rfl : i = s.size := by omega
    rw [ostinatolaw2_turned.l0, if_neg (by omega), ← hb, List.take_length, nums_bits]
  | succ d ih =>
    intro k i hi hd hk
    obtain ⟨k, rfl⟩ : ∃ m, k = m + 1 := ⟨k - 1, by omega⟩
    have hst : wrap64 ((i : Int) + 1) = ((i + 1 : Nat) : Int) := step_up i 1000 (by omega) (by omega)
    have hih := ih k (i + 1) (by omega) (by omega) (by omega)
    have hib : i < (bitsOf s).length := by omega
    have hlen : (((bitsOf s).take i).map fun c => if c then (48 : Int) else 49).length = i := by simp; omega
    rw [take_one _ i hib, List.map_append] at hih
    have hbt : bt s (i : Int) = ((s.data[i]'(by simpa using (by omega : i < s.size))).toNat : Int) := by
      unfold bt
      rw [dif_pos (by simpa using (by omega : i < s.size))]
      rfl
    have hbit : (bitsOf s)[i] = ((s.data[i]'(by simpa using (by omega : i < s.size))) == 49) := by simp [bitsOf]
    rw [ostinatolaw2_turned.l0, if_pos (by omega), if_pos (by omega), hbt, hst]
    generalize s.data[i]'(by simpa using (by omega : i < s.size)) = x at *
    rw [hbit] at hih
    by_cases h49 : (x.toNat : Int) = 49
    · have e : (x == 49) = true := by
        have : x = 49 := by
          apply UInt8.toNat.inj
          show x.toNat = 49
          omega
        simp [this]
      rw [e] at hih
      rw [if_pos h49, if_pos (by omega)]
      exact hih
    · have e : (x == 49) = false := by
        refine beq_eq_false_iff_ne.mpr (fun h => h49 ?_)
        rw [h]
        rfl
      rw [e] at hih
      rw [if_neg h49, if_pos (by omega)]
      exact hih
theorem turned_f (s : ByteArray) (hs : s.size ≤ 1000) : ostinatolaw2_turned.f 1001 s = some (B ((bitsOf s).map not)) := by
  unfold ostinatolaw2_turned.f
  exact turned_from s hs s.size 1001 0 (by omega) (by omega) (by omega)

theorem next_not (l : List Bool) : (nextL l < 0 ∧ nextL (l.map not) = nextL l) ∨ (0 ≤ nextL l ∧ nextL l ≤ 1 ∧ nextL (l.map not) = 1 - nextL l) := by
  cases l with
  | nil => exact .inl ⟨by decide, rfl⟩
  | cons c l =>
    rw [next_val, next_val, unstuff_not _ (by simp)]
    generalize unstuffL 0 false 0 (c :: l) = u
    obtain ⟨u1, u2, u3, u4⟩ := u
    simp only
    by_cases h : u4.isSome = true
    · rw [if_pos h, if_pos h]; exact .inl ⟨by omega, rfl⟩
    · rw [if_neg h, if_neg h]
      by_cases h5 : u2 = 5
      · rw [if_pos h5, if_pos h5]
        clear h5 h
        cases u3
        · exact .inr ⟨by simp, by simp, by simp⟩
        · exact .inr ⟨by simp, by simp, by simp⟩
      · rw [if_neg h5, if_neg h5]; exact .inl ⟨by omega, rfl⟩
theorem un_not (l : List Bool) : (unstuffL 0 false 0 (l.map not)).1 = (unstuffL 0 false 0 l).1.map not ∧ (unstuffL 0 false 0 (l.map not)).2.2.2 = (unstuffL 0 false 0 l).2.2.2 := by
  cases l with
  | nil => exact ⟨rfl, rfl⟩
  | cons c l => rw [unstuff_not _ (by simp)]; exact ⟨rfl, rfl⟩

theorem StuffOpposite : ostinatolaw2_StuffOpposite.Pure := by
  intro s hs
  refine ⟨1001, ?_⟩
  unfold ostinatolaw2_StuffOpposite.f
  rw [known_tells, Option.bind_some, if_pos rfl]
  by_cases h : (s.size : Int) > 200
  · rw [if_pos h]
  · have hb := bitsOf_length s
    rw [if_neg h, stuff_g s (by omega), Option.bind_some, turned_f s (by omega), Option.bind_some, unstuff_g s (by omega), next_g s (by omega)]
    generalize bitsOf s = l at *
    have h2 := stuff_len l
    have hu := unstuffL_length l 0 false 0
    have hn : (l.map not).length = l.length := List.length_map ..
    rw [stuff_f _ (by omega), Option.bind_some, Option.bind_some, Option.bind_some, unstuff_f _ (by omega), Option.bind_some, Option.bind_some, Option.bind_some, next_f _ (by omega), Option.bind_some]
    rw [turned_f _ (by rw [B_size]; omega), Option.bind_some, bitsOf_B, stuff_not, if_pos rfl]
    simp only
    rw [turned_f _ (by rw [B_size]; omega), Option.bind_some, bitsOf_B, (un_not l).1, (un_not l).2, if_pos rfl, if_pos rfl]
    rcases next_not l with ⟨ha, hb⟩ | ⟨ha, hb, hc⟩
    · rw [if_pos ha, hb, if_pos rfl]
    · have hw : wrap64 (1 - nextL l) = 1 - nextL l := by unfold wrap64; omega
      rw [if_neg (by omega), if_pos ha, hc, hw]
      exact congrArg some (beq_self_eq_true _)

end Go.Proofs.Ytkclgfjfmlogmaa.Pure
