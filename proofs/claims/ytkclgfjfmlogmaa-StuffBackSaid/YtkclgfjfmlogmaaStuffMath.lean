/- What is true of bits laid between: plain mathematics on lists of Bools. -/
import Derived.Test.YtkclgfjfmlogmaaStuffSpec
namespace Go.Proofs.Ytkclgfjfmlogmaa.Bits
set_option linter.unusedVariables false
set_option linter.unusedSimpArgs false
open Go Go.RowKit

/-- What a row that was laid between ends with. -/
def stuffSt : Nat → Bool → List Bool → Nat × Bool
  | n, b, [] => (n, b)
  | n, b, c :: l => if runK n b c = 5 then stuffSt 1 (!c) l else stuffSt (runK n b c) c l
theorem stuffL_append : ∀ (s t : List Bool) (n : Nat) (b : Bool), stuffL n b (s ++ t) = stuffL n b s ++ stuffL (stuffSt n b s).1 (stuffSt n b s).2 t
  | [], t, n, b => by simp [stuffL, stuffSt]
  | c :: s, t, n, b => by
    simp only [List.cons_append]
    rw [stuffL, stuffL, stuffSt]
    by_cases h : runK n b c = 5
    · rw [if_pos h, if_pos h, if_pos h, stuffL_append s t]; rfl
    · rw [if_neg h, if_neg h, if_neg h, stuffL_append s t]; rfl
theorem runK_four (n : Nat) (b c : Bool) (h : n ≤ 4) (h5 : ¬ runK n b c = 5) : 1 ≤ runK n b c ∧ runK n b c ≤ 4 := by
  have := runK_le n b c (by omega) (by omega)
  omega
theorem stuffL_bound : ∀ (l : List Bool) (n : Nat) (b : Bool), 1 ≤ n → n ≤ 4 → (stuffL n b l).length ≤ l.length + (l.length + n - 1) / 4
  | [], _, _, _, _ => by simp [stuffL]
  | c :: l, n, b, h1, h4 => by
    unfold stuffL
    by_cases h5 : runK n b c = 5
    · rw [if_pos h5]
      have := stuffL_bound l 1 (!c) (by omega) (by omega)
      have hn : n = 4 := by unfold runK at h5; split at h5 <;> omega
      simp only [List.length_cons]
      omega
    · rw [if_neg h5]
      have hk := runK_four n b c h4 h5
      have := stuffL_bound l (runK n b c) c hk.1 hk.2
      have hle : runK n b c ≤ n + 1 := by unfold runK; split <;> omega
      simp only [List.length_cons]
      omega
theorem stuff_bound (l : List Bool) (h : l.length ≤ 10000) : ((stuff l).length : Int) ≤ mostI l.length := by
  unfold stuff
  cases l with
  | nil =>
    simp only [stuffL, List.length_nil]
    unfold mostI
    omega
  | cons c l =>
    have e : stuffL 0 false (c :: l) = c :: stuffL 1 c l := by
      have : runK 0 false c = 1 := by unfold runK; rw [if_neg (by omega)]
      rw [stuffL, this, if_neg (by omega)]
    rw [e]
    have := stuffL_bound l 1 c (by omega) (by omega)
    simp only [List.length_cons] at *
    unfold mostI
    omega
theorem stuffL_le : ∀ (l : List Bool) (n : Nat) (b : Bool), l.length ≤ (stuffL n b l).length := fun l n b => (stuffL_length l n b).1
theorem most_add (n : Nat) (h : n ≤ 10000) : mostI n ≤ 12500 := by unfold mostI; omega

/-- What was laid between is taken away again. -/
theorem unstuff_stuffL : ∀ (l : List Bool) (n : Nat) (b : Bool) (i : Nat), n ≤ 4 → (unstuffL n b i (stuffL n b l)).1 = l ∧ (unstuffL n b i (stuffL n b l)).2.2.2 = none
  | [], _, _, _, _ => by simp [stuffL, unstuffL]
  | c :: l, n, b, i, h => by
    unfold stuffL
    by_cases h5 : runK n b c = 5
    · rw [if_pos h5]
      have e : runK 5 c (!c) = 1 := by unfold runK; rw [if_neg (by simp)]
      have hne : ¬ (5 = 5 ∧ c = !c) := by simp
      have ih := unstuff_stuffL l 1 (!c) (i + 1 + 1) (by omega)
      rw [unstuffL, if_neg (by omega), if_neg (by omega), h5, unstuffL, if_neg hne, if_pos rfl, e]
      exact ⟨by rw [ih.1], ih.2⟩
    · rw [if_neg h5]
      have hk := runK_four n b c h h5
      have ih := unstuff_stuffL l (runK n b c) c (i + 1) hk.2
      rw [unstuffL, if_neg (by omega), if_neg (by omega)]
      exact ⟨by rw [ih.1], ih.2⟩
theorem unstuff_stuff (l : List Bool) : (unstuffL 0 false 0 (stuff l)).1 = l ∧ (unstuffL 0 false 0 (stuff l)).2.2.2 = none := unstuff_stuffL l 0 false 0 (by omega)
theorem stuff_inj {a b : List Bool} (h : stuff a = stuff b) : a = b := by rw [← (unstuff_stuff a).1, h, (unstuff_stuff b).1]

/-- What is behind is taken away behind what is ahead. -/
theorem unstuff_append : ∀ (s t : List Bool) (n : Nat) (b : Bool) (i : Nat), (unstuffL n b i s).2.2.2 = none →
    unstuffL n b i (s ++ t) = ((unstuffL n b i s).1 ++ (unstuffL (unstuffL n b i s).2.1 (unstuffL n b i s).2.2.1 (i + s.length) t).1, (unstuffL (unstuffL n b i s).2.1 (unstuffL n b i s).2.2.1 (i + s.length) t).2)
  | [], t, n, b, i, _ => by simp [unstuffL]
  | c :: s, t, n, b, i, h => by
    unfold unstuffL at h
    by_cases h5 : n = 5 ∧ b = c
    · rw [if_pos h5] at h; cases h
    · rw [if_neg h5] at h
      simp only at h
      have ih := unstuff_append s t (runK n b c) c (i + 1) h
      have e : i + 1 + s.length = i + (c :: s).length := by simp; omega
      simp only [List.cons_append]
      rw [unstuffL, if_neg h5, unstuffL, if_neg h5, ih, e]
      by_cases hn : n = 5
      · simp [hn]
      · simp [hn]
/-- What was met ahead is met, whatever is behind it. -/
theorem unstuff_hit : ∀ (s t : List Bool) (n : Nat) (b : Bool) (i : Nat), (unstuffL n b i s).2.2.2.isSome = true → unstuffL n b i (s ++ t) = unstuffL n b i s
  | [], t, n, b, i, h => by simp [unstuffL] at h
  | c :: s, t, n, b, i, h => by
    simp only [List.cons_append]
    unfold unstuffL at h ⊢
    by_cases h5 : n = 5 ∧ b = c
    · rw [if_pos h5, if_pos h5]
    · rw [if_neg h5] at h
      simp only at h
      rw [if_neg h5, if_neg h5, unstuff_hit s t _ _ _ h]
theorem runL_append : ∀ (s t : List Bool) (n : Nat) (b : Bool), runL n b (s ++ t) = runL (runL n b s).1 (runL n b s).2 t
  | [], _, _, _ => rfl
  | c :: s, t, n, b => by simp only [List.cons_append, runL]; exact runL_append s t _ _
/-- While nothing is met, no more than five are alike. -/
theorem unstuff_five : ∀ (l : List Bool) (n : Nat) (b : Bool) (i : Nat), n ≤ 5 → (unstuffL n b i l).2.2.2 = none → (runL n b l).1 ≤ 5
  | [], _, _, _, h, _ => h
  | c :: l, n, b, i, h, hn => by
    unfold unstuffL at hn
    by_cases h5 : n = 5 ∧ b = c
    · rw [if_pos h5] at hn; cases hn
    · rw [if_neg h5] at hn
      exact unstuff_five l _ _ (i + 1) (runK_le n b c h h5).2 hn
/-- A row that begins alike to one in which nothing is met. -/
theorem unstuff_prefix (s t : List Bool) (n : Nat) (b : Bool) (i : Nat) (h : (unstuffL n b i (s ++ t)).2.2.2 = none) : (unstuffL n b i s).2.2.2 = none := by
  cases hs : (unstuffL n b i s).2.2.2 with
  | none => rfl
  | some x =>
    have := unstuff_hit s t n b i (by rw [hs]; rfl)
    rw [this, hs] at h
    cases h
/-- Where no bit is laid between, no five are alike at the end. -/
theorem stuff_none : ∀ (l : List Bool) (n : Nat) (b : Bool), n ≤ 4 → (stuffL n b l).length = l.length → (runL n b l).1 ≤ 4
  | [], _, _, h, _ => h
  | c :: l, n, b, h, hl => by
    unfold stuffL at hl
    by_cases h5 : runK n b c = 5
    · rw [if_pos h5] at hl
      have := stuffL_le l 1 (!c)
      simp at hl
      omega
    · rw [if_neg h5] at hl
      simp at hl
      exact stuff_none l _ _ (runK_four n b c h h5).2 hl
theorem runL_last : ∀ (l : List Bool) (n : Nat) (b c : Bool), (runL n b (l ++ [c])).2 = c := by
  intro l n b c
  rw [runL_append]
  rfl
/-- Bits alike make the run longer. -/
theorem runL_more : ∀ (m n : Nat) (b : Bool), 0 < n → runL n b (List.replicate m b) = (n + m, b)
  | 0, _, _, _ => rfl
  | m + 1, n, b, h => by
    have e : runK n b b = n + 1 := by unfold runK; rw [if_pos ⟨h, rfl⟩]
    rw [List.replicate_succ, runL, e, runL_more m (n + 1) b (by omega)]
    congr 1
    omega
theorem runL_five (n : Nat) (b : Bool) (m : Nat) (c : Bool) : m ≤ (runL n b (List.replicate m c)).1 := by
  cases m with
  | zero => exact Nat.zero_le _
  | succ m =>
    have hp := runK_pos' n b c
    rw [List.replicate_succ, runL, runL_more m _ c hp]
    simp only
    omega
where
  runK_pos' (n : Nat) (b c : Bool) : 0 < runK n b c := by unfold runK; split <;> omega
/-- Six alike are met at the sixth. -/
theorem unstuff_six : ∀ (m n : Nat) (b : Bool) (i : Nat), 1 ≤ n → n ≤ 5 → 6 ≤ n + m → (unstuffL n b i (List.replicate m b)).2.2.2 = some (i + (5 - n))
  | 0, n, _, _, _, _, _ => by omega
  | m + 1, n, b, i, h1, h5, h6 => by
    rw [List.replicate_succ]
    unfold unstuffL
    by_cases h : n = 5
    · rw [if_pos ⟨h, rfl⟩]
      simp [h]
    · rw [if_neg (fun x => h x.1)]
      have e : runK n b b = n + 1 := by unfold runK; rw [if_pos ⟨by omega, rfl⟩]
      simp only
      rw [e, unstuff_six m (n + 1) b (i + 1) (by omega) (by omega) (by omega)]
      congr 1
      omega

/-! ### The opposite bits -/
theorem runK_not (n : Nat) (b c : Bool) : runK n (!b) (!c) = runK n b c := by unfold runK; cases b <;> cases c <;> simp
theorem stuffL_not : ∀ (l : List Bool) (n : Nat) (b : Bool), stuffL n (!b) (l.map not) = (stuffL n b l).map not
  | [], _, _ => rfl
  | c :: l, n, b => by
    simp only [List.map_cons]
    rw [stuffL, stuffL, runK_not]
    by_cases h : runK n b c = 5
    · rw [if_pos h, if_pos h, stuffL_not l 1 (!c)]; simp
    · rw [if_neg h, if_neg h, stuffL_not l _ c]; simp
theorem stuffL_zero (l : List Bool) (b b' : Bool) : stuffL 0 b l = stuffL 0 b' l := by
  cases l with
  | nil => rfl
  | cons c l => rw [stuffL, stuffL]; simp [runK]
theorem stuff_not (l : List Bool) : stuff (l.map not) = (stuff l).map not := by
  unfold stuff
  rw [stuffL_zero _ false (!false), stuffL_not]
theorem unstuffL_not : ∀ (l : List Bool) (n : Nat) (b : Bool) (i : Nat), unstuffL n (!b) i (l.map not) = ((unstuffL n b i l).1.map not, (unstuffL n b i l).2.1, !(unstuffL n b i l).2.2.1, (unstuffL n b i l).2.2.2)
  | [], _, _, _ => rfl
  | c :: l, n, b, i => by
    simp only [List.map_cons]
    rw [unstuffL, unstuffL, runK_not, unstuffL_not l _ c]
    have e : (n = 5 ∧ (!b) = !c) ↔ (n = 5 ∧ b = c) := by cases b <;> cases c <;> simp
    by_cases h : n = 5 ∧ b = c
    · rw [if_pos h, if_pos (e.2 h)]; rfl
    · rw [if_neg h, if_neg (fun x => h (e.1 x))]
      by_cases hn : n = 5
      · simp [hn]
      · simp [hn]
theorem unstuffL_zero (l : List Bool) (b b' : Bool) (i : Nat) (h : l ≠ []) : unstuffL 0 b i l = unstuffL 0 b' i l := by
  cases l with
  | nil => exact absurd rfl h
  | cons c l => rw [unstuffL, unstuffL]; simp [runK]
theorem unstuff_not (l : List Bool) (h : l ≠ []) : unstuffL 0 false 0 (l.map not) = ((unstuffL 0 false 0 l).1.map not, (unstuffL 0 false 0 l).2.1, !(unstuffL 0 false 0 l).2.2.1, (unstuffL 0 false 0 l).2.2.2) := by
  rw [unstuffL_zero _ false (!false) 0 (by simpa using h), unstuffL_not]

/-! ### Rows in which no five are alike -/
/-- 01 or 011, again and again. -/
def quiet : List Bool → List Bool
  | [] => []
  | x :: l => (if x then [false, true, true] else [false, true]) ++ quiet l
theorem unstuffL_step (n : Nat) (b c : Bool) (i : Nat) (l : List Bool) (h : n ≠ 5) : unstuffL n b i (c :: l) = (c :: (unstuffL (runK n b c) c (i + 1) l).1, (unstuffL (runK n b c) c (i + 1) l).2) := by
  rw [unstuffL, if_neg (fun x => h x.1), if_neg h]
theorem stuffL_step (n : Nat) (b c : Bool) (l : List Bool) (h : runK n b c ≠ 5) : stuffL n b (c :: l) = c :: stuffL (runK n b c) c l := by
  rw [stuffL, if_neg h]
theorem quiet_bits : ∀ (l : List Bool) (n i : Nat), n ≤ 2 → stuffL n true (quiet l) = quiet l ∧ (unstuffL n true i (quiet l)).1 = quiet l ∧ (unstuffL n true i (quiet l)).2.2.2 = none ∧ (unstuffL n true i (quiet l)).2.1 ≤ 2
  | [], n, i, h => by simp [quiet, stuffL, unstuffL, h]
  | x :: l, n, i, h => by
    have e1 : runK n true false = 1 := by unfold runK; rw [if_neg (by simp)]
    have e2 : runK 1 false true = 1 := by unfold runK; rw [if_neg (by simp)]
    have e3 : runK 1 true true = 2 := by unfold runK; rw [if_pos (by simp)]
    cases x with
    | false =>
      have ih := quiet_bits l 1 (i + 1 + 1) (by omega)
      have eq : quiet (false :: l) = false :: true :: quiet l := rfl
      rw [eq, stuffL_step _ _ _ _ (by rw [e1]; omega), e1, stuffL_step _ _ _ _ (by rw [e2]; omega), e2, ih.1, unstuffL_step _ _ _ _ _ (by omega), e1, unstuffL_step _ _ _ _ _ (by omega), e2]
      exact ⟨rfl, by rw [ih.2.1], ih.2.2.1, ih.2.2.2⟩
    | true =>
      have ih := quiet_bits l 2 (i + 1 + 1 + 1) (by omega)
      have eq : quiet (true :: l) = false :: true :: true :: quiet l := rfl
      rw [eq, stuffL_step _ _ _ _ (by rw [e1]; omega), e1, stuffL_step _ _ _ _ (by rw [e2]; omega), e2, stuffL_step _ _ _ _ (by rw [e3]; omega), e3, ih.1, unstuffL_step _ _ _ _ _ (by omega), e1, unstuffL_step _ _ _ _ _ (by omega), e2, unstuffL_step _ _ _ _ _ (by omega), e3]
      exact ⟨rfl, by rw [ih.2.1], ih.2.2.1, ih.2.2.2⟩
end Go.Proofs.Ytkclgfjfmlogmaa.Bits
