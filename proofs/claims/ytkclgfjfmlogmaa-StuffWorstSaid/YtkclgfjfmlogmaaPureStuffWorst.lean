/- StuffWorst (layer 2): for every number below 256 the row that makes most bits be laid makes just as many as Most says, and Most holds its argument within its bounds. Conditions: none beyond the types of the arguments. -/
import Derived.Test.YtkclgfjfmlogmaaQStuffWorstx
import Derived.Test.YtkclgfjfmlogmaaStuffFacts
import Derived.OpenShut
namespace Go.Proofs.Ytkclgfjfmlogmaa.Pure
set_option linter.unusedVariables false
set_option linter.unusedSimpArgs false
open Go.RowKit Go.Proofs.Ytkclgfjfmlogmaa.QStuffWorst Go.Proofs.YtkclgfjfmlogmaaW.PrintWords Go.Proofs.YtkclgfjfmlogmaaW.PrintLast Go.Proofs.YtkclgfjfmlogmaaW.PrintMore
open Go.Proofs.Ytkclgfjfmlogmaa.Facts Go.Proofs.Ytkclgfjfmlogmaa.Bits Go.Proofs.Ytkclgfjfmlogmaa.BitsW Go.Proofs.Ytkclgfjfmlogmaa.Plug

theorem known_tells : ostinatolaw2_known.f = some true := by decide +kernel

/-- The bit at place i. -/
def worstAt (c : Bool) (i : Nat) : Bool := if i < 5 ∨ ((i - 5) / 4) % 2 = 1 then c else !c
def worst (c : Bool) (i : Nat) : List Bool := (List.range i).map (worstAt c)
theorem worst_succ (c : Bool) (i : Nat) : worst c (i + 1) = worst c i ++ [worstAt c i] := by simp [worst, List.range_succ]
theorem worst_most : ∀ n : Fin 256, ∀ c : Bool, ((stuff (worst c n.val)).length : Int) = mostI n.val := by decide +kernel

theorem worst_from (n : Nat) (hn : n ≤ 255) (c : Bool) (d : Nat) : ∀ (k i : Nat), i ≤ n → n - i = d → d < k →
    ostinatolaw2_StuffWorst.l0 k (n : Int) (B [c]) (B [!c]) (B (worst c i)) (i : Int) = some true := by
  have hw : wrap64 (n : Int) = (n : Int) := by unfold wrap64; omega
  induction d with
  | zero =>
    intro k i hi hd hk
    obtain ⟨k, rfl⟩ : ∃ m, k = m + 1 := ⟨k - 1, by omega⟩
    have e : i = n := by omega
    subst e
    have hl : (worst c i).length = i := by simp [worst]
    have hm := worst_most ⟨i, by omega⟩ c
    simp only at hm
    rw [ostinatolaw2_StuffWorst.l0, hw, if_neg (by omega), stuff_f _ (by omega), Option.bind_some, most_f, Option.bind_some, B_size, if_pos hm]
    decide +kernel
  | succ d ih =>
    intro k i hi hd hk
    obtain ⟨k, rfl⟩ : ∃ m, k = m + 1 := ⟨k - 1, by omega⟩
    have hl : (worst c i).length = i := by simp [worst]
    have hst : wrap64 ((i : Int) + 1) = ((i + 1 : Nat) : Int) := by unfold wrap64; omega
    have hih := ih k (i + 1) (by omega) (by omega) (by omega)
    rw [worst_succ] at hih
    rw [ostinatolaw2_StuffWorst.l0, hw, if_pos (by omega), hst, B_size, B_size, B_size, hl]
    by_cases h5 : i < 5
    · have e : worstAt c i = c := by unfold worstAt; rw [if_pos (.inl h5)]
      rw [e] at hih
      rw [if_pos (by omega), if_pos (by simp; omega), B_append]
      exact hih
    · have hq : Int.tmod (wrap64 (Int.tdiv (wrap64 ((i : Int) - 5)) 4)) 2 = (((i - 5) / 4 % 2 : Nat) : Int) := by
        have e1 : wrap64 ((i : Int) - 5) = ((i - 5 : Nat) : Int) := by unfold wrap64; omega
        rw [e1, Int.tdiv_eq_ediv_of_nonneg (by omega)]
        have e2 : wrap64 (((i - 5 : Nat) : Int) / 4) = (((i - 5) / 4 : Nat) : Int) := by unfold wrap64; omega
        rw [e2, Int.tmod_eq_emod_of_nonneg (by omega)]
        omega
      rw [if_neg (by omega), hq]
      by_cases h1 : (i - 5) / 4 % 2 = 1
      · have e : worstAt c i = c := by unfold worstAt; rw [if_pos (.inr h1)]
        rw [e] at hih
        rw [if_pos (by omega), if_pos (by simp; omega), B_append]
        exact hih
      · have e : worstAt c i = !c := by unfold worstAt; rw [if_neg (by omega)]
        rw [e] at hih
        rw [if_neg (by omega), if_pos (by simp; omega), B_append]
        exact hih

theorem StuffWorst : ostinatolaw2_StuffWorst.Pure := by
  intro n one hn
  have bn := bounds_u8 hn
  obtain ⟨n, rfl⟩ := Int.eq_ofNat_of_zero_le bn.1
  refine ⟨258, ?_⟩
  unfold ostinatolaw2_StuffWorst.f
  rw [known_tells, Option.bind_some, if_pos rfl]
  have h1 : (⟨#[49]⟩ : ByteArray) = B [true] := rfl
  have h0 : (⟨#[48]⟩ : ByteArray) = B [false] := rfl
  cases one with
  | true =>
    rw [if_pos rfl, ostinatolaw2_StuffWorst.j0, h1, h0]
    exact worst_from n (by omega) true n 257 0 (by omega) (by omega) (by omega)
  | false =>
    rw [if_neg (by decide), ostinatolaw2_StuffWorst.j0, h1, h0]
    exact worst_from n (by omega) false n 257 0 (by omega) (by omega) (by omega)

end Go.Proofs.Ytkclgfjfmlogmaa.Pure
