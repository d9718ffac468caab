/- Bits laid between, as lists of Bools: what the document's layer 2 says, in plain Lean. -/
import Derived.Test.YtkclgfjfmlogmaaBitsMath
namespace Go.Proofs.Ytkclgfjfmlogmaa.Bits
set_option linter.unusedVariables false
set_option linter.unusedSimpArgs false
open Go Go.RowKit

/-- How many alike a row ends with, when one more comes. -/
def runK (n : Nat) (b c : Bool) : Nat := if n > 0 ∧ b = c then n + 1 else 1
/-- Bits laid between, behind a row that ends with n bits b. -/
def stuffL : Nat → Bool → List Bool → List Bool
  | _, _, [] => []
  | n, b, c :: l => if runK n b c = 5 then c :: (!c) :: stuffL 1 (!c) l else c :: stuffL (runK n b c) c l
/-- Taken away again: what is left, the last bits alike, where a sixth alike is. -/
def unstuffL : Nat → Bool → Nat → List Bool → List Bool × Nat × Bool × Option Nat
  | n, b, _, [] => ([], n, b, none)
  | n, b, i, c :: l => if n = 5 ∧ b = c then ([], n, b, some i) else
      ((if n = 5 then (unstuffL (runK n b c) c (i + 1) l).1 else c :: (unstuffL (runK n b c) c (i + 1) l).1), (unstuffL (runK n b c) c (i + 1) l).2)
/-- The last bits alike of a row. -/
def runL : Nat → Bool → List Bool → Nat × Bool
  | n, b, [] => (n, b)
  | n, b, c :: l => runL (runK n b c) c l
theorem runK_le (n : Nat) (b c : Bool) (h : n ≤ 5) (h2 : ¬ (n = 5 ∧ b = c)) : 1 ≤ runK n b c ∧ runK n b c ≤ 5 := by
  unfold runK
  split
  · rename_i h3
    refine ⟨by omega, ?_⟩
    have : n ≠ 5 := fun e => h2 ⟨e, h3.2⟩
    omega
  · omega
/-- Stuff. -/
def stuff (l : List Bool) : List Bool := stuffL 0 false l
/-- Which bit must come next. -/
def nextL (l : List Bool) : Int := match unstuffL 0 false 0 l with
  | (_, n, b, at_) => if at_.isSome then -2 else if n = 5 then (if b then 0 else 1) else -1
/-- How many bits there are at most. -/
def mostI (n : Int) : Int := if (min (max n 0) 10000) < 5 then min (max n 0) 10000 else min (max n 0) 10000 + 1 + (min (max n 0) 10000 - 5) / 4
theorem unstuff_run : ∀ (l : List Bool) (n : Nat) (b : Bool) (i : Nat), (unstuffL n b i l).2.2.2 = none → ((unstuffL n b i l).2.1, (unstuffL n b i l).2.2.1) = runL n b l
  | [], _, _, _, _ => rfl
  | c :: l, n, b, i, h => by
    unfold unstuffL at h ⊢
    by_cases h5 : n = 5 ∧ b = c
    · rw [if_pos h5] at h; cases h
    · rw [if_neg h5] at h ⊢
      simp only at h ⊢
      exact unstuff_run l _ _ _ h
theorem stuffL_length : ∀ (l : List Bool) (n : Nat) (b : Bool), l.length ≤ (stuffL n b l).length ∧ (stuffL n b l).length ≤ 2 * l.length
  | [], _, _ => by simp [stuffL]
  | c :: l, n, b => by
    unfold stuffL
    split
    · have := stuffL_length l 1 (!c); simp; omega
    · have := stuffL_length l (runK n b c) c; simp; omega
end Go.Proofs.Ytkclgfjfmlogmaa.Bits
