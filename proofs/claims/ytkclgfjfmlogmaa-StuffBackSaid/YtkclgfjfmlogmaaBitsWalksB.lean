/- The walks of package bits, continued: numbers as bits. -/
import Derived.Test.YtkclgfjfmlogmaaBitsWalks
import Derived.WalkSmall
namespace Go.Proofs.Ytkclgfjfmlogmaa.BitsW
set_option linter.unusedVariables false
set_option linter.unusedSimpArgs false
open Go Go.RowKit Go.Proofs.Ytkclgfjfmlogmaa.Lib Go.Proofs.Ytkclgfjfmlogmaa.Bits Go.Proofs.YtkclgfjfmlogmaaW.PrintMore
attribute [local go_sem] max2_int min2_int max_two min_two

/-- How many bits Of tells. -/
def wid (width : Int) : Nat := (min (max width 0) 64).toNat

/-- What Of's loop has made of the block after k rounds: from the end on. -/
def halfOf (n : Nat) (W k : Nat) : List Value := List.replicate (W - k) (.int .u8 0) ++ byteVs ((ofN n k).map sg)
theorem halfOf_len (n W k : Nat) (hk : k ≤ W) : (halfOf n W k).length = W := by simp [halfOf, byteVs, ofN_length]; omega
theorem halfOf_step (n W k : Nat) (hk : k < W) : (halfOf n W k).set (W - 1 - k) (.int .u8 ((sg (n.testBit k)).toNat : Int)) = halfOf n W (k + 1) := by
  unfold halfOf
  rw [List.set_append_left _ _ (by simp; omega)]
  have e : W - k = (W - (k + 1)) + 1 := by omega
  have e2 : W - 1 - k = W - (k + 1) := by omega
  rw [e, List.replicate_succ', e2, List.set_append_right _ _ (by simp)]
  simp [ofN, byteVs]

theorem and_one_nat (m : Nat) (hm : m < 18446744073709551616) : (Go.bits BinOp.and IntKind.u64 (m : Int) 1 == 1) = decide (m % 2 = 1) := by
  rw [and_one_u64 _ (by omega) (by omega), Bool.eq_iff_iff]
  simp only [beq_iff_eq, decide_eq_true_eq]
  omega
theorem and_one (n k : Nat) (hn : n < 18446744073709551616) : (Go.bits BinOp.and IntKind.u64 ((n : Int) / 2 ^ k) 1 == 1) = n.testBit k := by
  have e : ((n : Int) / 2 ^ k) = ((n >>> k : Nat) : Int) := by
    rw [Nat.shiftRight_eq_div_pow]
    simp
  have hlt : n >>> k < 18446744073709551616 := by
    rw [Nat.shiftRight_eq_div_pow]
    exact Nat.lt_of_le_of_lt (Nat.div_le_self _ _) hn
  rw [e, and_one_nat _ hlt, Nat.testBit_eq_decide_div_mod_eq, ← Nat.shiftRight_eq_div_pow]
theorem halfOf_get (n W k : Nat) (hk : k < W) : (halfOf n W k)[W - 1 - k]? = some (.int .u8 0) := by
  unfold halfOf
  rw [List.getElem?_append_left (by simp; omega), List.getElem?_replicate]
  rw [if_pos (by omega)]
theorem halfOf_end (n W : Nat) : halfOf n W W = byteVs ((ofN n W).map sg) := by simp [halfOf]

end Go.Proofs.Ytkclgfjfmlogmaa.BitsW
