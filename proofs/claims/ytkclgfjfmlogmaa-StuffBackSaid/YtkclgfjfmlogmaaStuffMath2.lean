/- The bits alike at the end of a row, place by place; rows in which no five are alike. -/
import Derived.Test.YtkclgfjfmlogmaaStuffFacts
namespace Go.Proofs.Ytkclgfjfmlogmaa.Bits
set_option linter.unusedVariables false
set_option linter.unusedSimpArgs false
open Go Go.RowKit Go.Proofs.Ytkclgfjfmlogmaa.Lib Go.Proofs.Ytkclgfjfmlogmaa.BitsW Go.Proofs.Ytkclgfjfmlogmaa.StuffW Go.Proofs.Ytkclgfjfmlogmaa.Facts Go.Proofs.YtkclgfjfmlogmaaW.PrintWords

theorem runK_same (n : Nat) (b : Bool) (h : 0 < n) : runK n b b = n + 1 := by unfold runK; rw [if_pos ⟨h, rfl⟩]
theorem runK_other (n : Nat) (b c : Bool) (h : b ≠ c) : runK n b c = 1 := by unfold runK; rw [if_neg (fun x => h x.2)]
theorem take_one (s : List Bool) (k : Nat) (h : k < s.length) : s.take (k + 1) = s.take k ++ [s[k]] := by
  rw [List.take_add_one, List.getElem?_eq_getElem h]; rfl
theorem runL_take (s : List Bool) (k : Nat) (h : k < s.length) : runL 0 false (s.take (k + 1)) = (runK (runL 0 false (s.take k)).1 (runL 0 false (s.take k)).2 s[k], s[k]) := by
  rw [take_one s k h, runL_append]; rfl
/-- The bits alike at the end of the first k. -/
theorem runL_spec (s : List Bool) : ∀ k, k ≤ s.length → (runL 0 false (s.take k)).1 ≤ k ∧ (∀ j, j < (runL 0 false (s.take k)).1 → s[k - 1 - j]? = some (runL 0 false (s.take k)).2) ∧
    ((runL 0 false (s.take k)).1 < k → s[k - 1 - (runL 0 false (s.take k)).1]? = some (!(runL 0 false (s.take k)).2)) ∧ (0 < k → 0 < (runL 0 false (s.take k)).1)
  | 0, _ => by simp [runL]
  | k + 1, h => by
    obtain ⟨h1, h2, h3, h4⟩ := runL_spec s k (by omega)
    rw [runL_take s k (by omega)]
    simp only
    generalize hm : (runL 0 false (s.take k)).1 = m at *
    generalize hb : (runL 0 false (s.take k)).2 = b at *
    have hk : s[k]? = some s[k] := List.getElem?_eq_getElem (by omega)
    generalize s[k] = d at *
    by_cases h5 : m > 0 ∧ b = d
    · obtain ⟨h5, rfl⟩ := h5
      rw [runK_same m b h5]
      refine ⟨by omega, fun j hj => ?_, fun hj => ?_, fun _ => by omega⟩
      · cases j with
        | zero => exact hk
        | succ j =>
          have := h2 j (by omega)
          rw [show k + 1 - 1 - (j + 1) = k - 1 - j by omega]
          exact this
      · rw [show k + 1 - 1 - (m + 1) = k - 1 - m by omega]
        exact h3 (by omega)
    · have e : runK m b d = 1 := by unfold runK; rw [if_neg h5]
      rw [e]
      refine ⟨by omega, fun j hj => ?_, fun hj => ?_, fun _ => by omega⟩
      · obtain rfl : j = 0 := by omega
        exact hk
      · have hm0 := h4 (by omega)
        have hne : b ≠ d := fun x => h5 ⟨hm0, x⟩
        have := h2 0 hm0
        rw [show k + 1 - 1 - 1 = k - 1 - 0 by omega, this]
        cases b <;> cases d <;> simp_all
theorem stuffed_none (l : List Bool) : (unstuffL 0 false 0 (stuff l)).2.2.2 = none := (unstuff_stuff l).2
theorem stuffed_run (l : List Bool) (k : Nat) : (runL 0 false ((stuff l).take k)).1 ≤ 5 := by
  refine unstuff_five _ 0 false 0 (by omega) (unstuff_prefix _ ((stuff l).drop k) 0 false 0 ?_)
  rw [List.take_append_drop]
  exact stuffed_none l
theorem stuffed_pre (l : List Bool) (k : Nat) : (unstuffL 0 false 0 ((stuff l).take k)).2.2.2 = none := by
  refine unstuff_prefix _ ((stuff l).drop k) 0 false 0 ?_
  rw [List.take_append_drop]
  exact stuffed_none l
theorem next_val (l : List Bool) : nextL l = if (unstuffL 0 false 0 l).2.2.2.isSome then -2 else if (unstuffL 0 false 0 l).2.1 = 5 then (if (unstuffL 0 false 0 l).2.2.1 then 0 else 1) else -1 := rfl
theorem unstuffL_length : ∀ (l : List Bool) (n : Nat) (b : Bool) (i : Nat), (unstuffL n b i l).1.length ≤ l.length
  | [], _, _, _ => by simp [unstuffL]
  | c :: l, n, b, i => by
    have := unstuffL_length l (runK n b c) c (i + 1)
    unfold unstuffL
    split
    · simp
    · split
      · simp only [List.length_cons]; omega
      · simp only [List.length_cons]; omega
theorem at_none : atI none = -1 := rfl
theorem at_some (i : Nat) : atI (some i) = (i : Int) := rfl
theorem nums_one (c : Bool) : strOfNums [((sg c).toNat : Int)] = B [c] := by cases c <;> decide +kernel
theorem back_down (i : Nat) (hn : i ≤ 140737488355328) : wrap64 (((i + 1 : Nat) : Int) - 1) = (i : Int) := by unfold wrap64; omega
theorem quiet_append : ∀ (a b : List Bool), quiet (a ++ b) = quiet a ++ quiet b
  | [], _ => rfl
  | x :: a, b => by simp only [List.cons_append, quiet, quiet_append a b, List.append_assoc]
theorem quiet_length : ∀ (a : List Bool), (quiet a).length ≤ 3 * a.length
  | [] => by simp [quiet]
  | x :: a => by
    have := quiet_length a
    cases x <;> simp [quiet] <;> omega
theorem quiet_stuff (l : List Bool) : stuff (quiet l) = quiet l ∧ (unstuffL 0 false 0 (quiet l)).1 = quiet l ∧ (unstuffL 0 false 0 (quiet l)).2.2.2 = none ∧ (unstuffL 0 false 0 (quiet l)).2.1 ≤ 2 := by
  cases l with
  | nil => simp [quiet, stuff, stuffL, unstuffL]
  | cons x l =>
    have h := quiet_bits (x :: l) 0 0 (by omega)
    unfold stuff
    rw [stuffL_zero _ false true, unstuffL_zero _ false true 0 (by cases x <;> simp [quiet])]
    exact h
theorem quiet_next (l : List Bool) : nextL (quiet l) = -1 := by
  obtain ⟨h1, h2, h3, h4⟩ := quiet_stuff l
  rw [next_val, h3]
  have : (unstuffL 0 false 0 (quiet l)).2.1 ≠ 5 := by omega
  rw [if_neg (by simp), if_neg this]
end Go.Proofs.Ytkclgfjfmlogmaa.Bits
