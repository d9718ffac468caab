/- What is true of rows of bits and their sums: plain mathematics on lists of Bools. -/
import Derived.Test.YtpkpnaedacefaaaGreatBitsA
import Derived.OpenShut
namespace Go.Proofs.YtpkpnaedacefaaaGreat.Bits
set_option linter.unusedVariables false
set_option linter.unusedSimpArgs false
open Go Go.RowKit

theorem ofN_get (n w i : Nat) (h : i < w) : (ofN n w)[i]? = some (n.testBit (w - 1 - i)) := by
  induction w generalizing i with
  | zero => omega
  | succ w ih =>
    cases i with
    | zero => simp [ofN]
    | succ i =>
      simp only [ofN, List.getElem?_cons_succ]
      rw [ih i (by omega)]
      congr 2
      omega
theorem ofN_zero (w : Nat) : ofN 0 w = List.replicate w false := by
  induction w with
  | zero => rfl
  | succ w ih => simp [ofN, ih, List.replicate_succ]
theorem ofN_mod (n w k : Nat) (h : w ≤ k) : ofN (n % 2 ^ k) w = ofN n w := by
  induction w with
  | zero => rfl
  | succ w ih => simp [ofN, ih (by omega), Nat.testBit_mod_two_pow, show w < k by omega]

/-! ### Sums -/
theorem addC_zero : addC 0 false = 0 := by decide
theorem crc_zeros (k : Nat) : (List.replicate k false).foldl addC 0 = 0 := by
  induction k with
  | zero => rfl
  | succ k ih => rw [List.replicate_succ, List.foldl_cons, addC_zero, ih]
theorem crcN_append (a b : List Bool) : crcN (a ++ b) = b.foldl addC (crcN a) := by simp [crcN]
theorem crcN_ahead (k : Nat) (l : List Bool) : crcN (List.replicate k false ++ l) = crcN l := by
  rw [crcN_append]
  have : crcN (List.replicate k false) = 0 := crc_zeros k
  rw [this]
  rfl
theorem crc_own (c w : Nat) (hw : w ≤ 15) : (ofN c w).foldl addC ((c * 2 ^ (15 - w)) % 2 ^ 15) = 0 := by
  induction w with
  | zero => simp [ofN]
  | succ w ih =>
    simp only [ofN, List.foldl_cons]
    have ht : ((c * 2 ^ (15 - (w + 1))) % 2 ^ 15).testBit 14 = c.testBit w := by
      rw [Nat.testBit_mod_two_pow, Nat.testBit_mul_two_pow]
      have e : 14 - (15 - (w + 1)) = w := by omega
      rw [e, decide_eq_true (show 14 < 15 by omega), decide_eq_true (show 14 ≥ 15 - (w + 1) by omega)]
      rfl
    have hs : addC ((c * 2 ^ (15 - (w + 1))) % 2 ^ 15) (c.testBit w) = (c * 2 ^ (15 - w)) % 2 ^ 15 := by
      unfold addC
      rw [ht]
      have e2 : (2 : Nat) ^ (15 - w) = 2 ^ (15 - (w + 1)) * 2 := by rw [← Nat.pow_succ]; congr 1; omega
      simp only [bne_self_eq_false, Bool.false_eq_true, if_false, Nat.xor_zero]
      rw [e2]
      have e3 : (2 : Nat) ^ 15 = 32768 := rfl
      rw [e3, ← Nat.mul_assoc]
      omega
    rw [hs]
    exact ih (by omega)
theorem crc_self (l : List Bool) : crcN (l ++ ofN (crcN l) 15) = 0 := by
  rw [crcN_append]
  have := crc_own (crcN l) 15 (Nat.le_refl _)
  have h := crcN_lt l
  simpa [Nat.mod_eq_of_lt h] using this

theorem xor_lc (a b c : Nat) : a ^^^ (b ^^^ c) = b ^^^ (a ^^^ c) := by rw [← Nat.xor_assoc, Nat.xor_comm a b, Nat.xor_assoc]
theorem xor_cancel (a b : Nat) : a ^^^ (a ^^^ b) = b := by rw [← Nat.xor_assoc, Nat.xor_self, Nat.zero_xor]
theorem addC_xor (c d : Nat) (x y : Bool) : addC (c ^^^ d) (x ^^ y) = addC c x ^^^ addC d y := by
  unfold addC
  have e1 : (c ^^^ d) * 2 % 32768 = (c * 2 % 32768) ^^^ (d * 2 % 32768) := by
    have e3 : (32768 : Nat) = 2 ^ 15 := rfl
    rw [e3, ← Nat.xor_mod_two_pow]
    congr 1
    have := Nat.shiftLeft_xor_distrib (a := c) (b := d) (i := 1)
    simpa [Nat.shiftLeft_eq] using this
  rw [e1, Nat.testBit_xor]
  cases c.testBit 14 <;> cases d.testBit 14 <;> cases x <;> cases y <;> simp [Nat.xor_assoc, Nat.xor_comm, xor_lc, xor_cancel]
theorem crcFold_xor : ∀ (a b : List Bool) (c d : Nat), a.length = b.length → (List.zipWith (· ^^ ·) a b).foldl addC (c ^^^ d) = a.foldl addC c ^^^ b.foldl addC d
  | [], [], _, _, _ => rfl
  | x :: a, y :: b, c, d, h => by
    simp only [List.zipWith_cons_cons, List.foldl_cons]
    rw [addC_xor]
    exact crcFold_xor a b _ _ (by simpa using h)
  | [], _ :: _, _, _, h => by simp at h
  | _ :: _, [], _, _, h => by simp at h
theorem crcN_xor (a b : List Bool) (h : a.length = b.length) : crcN (List.zipWith (· ^^ ·) a b) = crcN a ^^^ crcN b := crcFold_xor a b 0 0 h
theorem ofN_xor (a b w : Nat) : ofN (a ^^^ b) w = List.zipWith (· ^^ ·) (ofN a w) (ofN b w) := by
  induction w with
  | zero => rfl
  | succ w ih => simp [ofN, ih, Nat.testBit_xor]

/-! ### A bit turned -/
/-- A row with one 1. -/
def unit (n i : Nat) : List Bool := (List.range n).map (fun j => j == i)
theorem unit_length (n i : Nat) : (unit n i).length = n := by simp [unit]
theorem turn_xor (l : List Bool) (i : Nat) : turn l i = List.zipWith (· ^^ ·) l (unit l.length i) := by
  apply List.ext_getElem?
  intro j
  unfold turn unit
  rw [List.getElem?_modify, List.getElem?_zipWith]
  by_cases hj : j < l.length
  · simp only [List.getElem?_map, List.getElem?_range hj, List.getElem?_eq_getElem hj, Option.map_some]
    by_cases e : i = j
    · subst e; simp
    · have e2 : ¬ j = i := fun h => e h.symm
      simp [e, show (j == i) = false from beq_eq_false_iff_ne.2 e2]
  · rw [List.getElem?_eq_none (by omega)]
    simp
theorem crc_turn (l : List Bool) (i : Nat) : crcN (turn l i) = crcN l ^^^ crcN (unit l.length i) := by
  rw [turn_xor, crcN_xor _ _ (by rw [unit_length])]
theorem turn_turn (l : List Bool) (i : Nat) : turn (turn l i) i = l := by
  apply List.ext_getElem?
  intro j
  unfold turn
  rw [List.getElem?_modify, List.getElem?_modify]
  by_cases e : i = j
  · subst e; cases l[i]? <;> simp
  · cases l[j]? <;> simp [e]
theorem turnI_turnI (l : List Bool) (i : Int) : turnI (turnI l i) i = l := by
  by_cases h : 0 ≤ i ∧ i < l.length
  · have h2 : turnI l i = turn l i.toNat := by unfold turnI; rw [if_pos h]
    rw [h2]
    unfold turnI
    rw [if_pos (by rw [turn_length]; exact h), turn_turn]
  · have h2 : turnI l i = l := by unfold turnI; rw [if_neg h]
    rw [h2, h2]
/-- Sums of rows of 127 bits with one 1: none is 0, no two are alike. -/
theorem units_apart : ∀ i k : Fin 127, (crcN (unit 127 i) = crcN (unit 127 k) → i = k) ∧ crcN (unit 127 i) ≠ 0 := by
  have key : (((List.range 127).map fun i => crcN (unit 127 i)).Nodup ∧ 0 ∉ (List.range 127).map fun i => crcN (unit 127 i)) := by decide +kernel
  intro i k
  obtain ⟨h1, h2⟩ := key
  refine ⟨fun h => ?_, fun h => h2 (by rw [← h]; exact List.mem_map.2 ⟨i.val, List.mem_range.2 i.isLt, rfl⟩)⟩
  have h3 := List.pairwise_iff_getElem.1 h1
  rcases Nat.lt_trichotomy i.val k.val with hlt | heq | hgt
  · exact absurd (by simpa using h) (h3 i.val k.val (by simp) (by simp) hlt)
  · exact Fin.ext heq
  · exact absurd (by simpa using h.symm) (h3 k.val i.val (by simp) (by simp) hgt)

/-! ### Numbers -/
theorem foldNum (l : List Bool) : ∀ a : Nat, l.foldl (fun a b => (2 * a + b.toNat) % 18446744073709551616) a % 18446744073709551616 = (a * 2 ^ l.length + numN l) % 18446744073709551616 := by
  induction l with
  | nil => intro a; simp [numN]
  | cons b l ih =>
    intro a
    have hn : ∀ (l : List Bool) (a : Nat), l.foldl (fun a b => 2 * a + b.toNat) a = a * 2 ^ l.length + numN l := by
      intro l
      induction l with
      | nil => intro a; simp [numN]
      | cons b l ih2 =>
        intro a
        simp only [numN, List.foldl_cons, List.length_cons]
        rw [ih2, ih2 (2 * 0 + b.toNat), Nat.pow_succ]
        simp only [Nat.mul_zero, Nat.zero_add, Nat.add_mul]
        have : 2 * a * 2 ^ l.length = a * (2 ^ l.length * 2) := by rw [Nat.mul_comm 2 a, Nat.mul_assoc, Nat.mul_comm 2]
        omega
    simp only [List.foldl_cons, List.length_cons]
    rw [ih]
    have e : numN (b :: l) = b.toNat * 2 ^ l.length + numN l := by
      have := hn l (2 * 0 + b.toNat)
      simpa [numN] using this
    rw [e, Nat.pow_succ]
    have h1 : (2 * a + b.toNat) % 18446744073709551616 * 2 ^ l.length % 18446744073709551616 = (2 * a + b.toNat) * 2 ^ l.length % 18446744073709551616 := by
      rw [Nat.mod_mul_mod]
    rw [Nat.add_mod, h1, ← Nat.add_mod]
    congr 1
    rw [Nat.add_mul, Nat.add_assoc]
    congr 1
    rw [Nat.mul_comm 2 a, Nat.mul_assoc, Nat.mul_comm 2]
theorem num64_eq (l : List Bool) : num64 l = numN l % 18446744073709551616 := by
  have := foldNum l 0
  have h2 := num64_lt l
  unfold num64 at *
  rw [Nat.mod_eq_of_lt h2] at this
  simpa using this
theorem numN_cons (b : Bool) (l : List Bool) : numN (b :: l) = b.toNat * 2 ^ l.length + numN l := by
  have hn : ∀ (l : List Bool) (a : Nat), l.foldl (fun a b => 2 * a + b.toNat) a = a * 2 ^ l.length + numN l := by
    intro l
    induction l with
    | nil => intro a; simp [numN]
    | cons b l ih2 =>
      intro a
      simp only [numN, List.foldl_cons, List.length_cons]
      rw [ih2, ih2 (2 * 0 + b.toNat), Nat.pow_succ]
      simp only [Nat.mul_zero, Nat.zero_add, Nat.add_mul]
      have : 2 * a * 2 ^ l.length = a * (2 ^ l.length * 2) := by rw [Nat.mul_comm 2 a, Nat.mul_assoc, Nat.mul_comm 2]
      omega
  have := hn l (2 * 0 + b.toNat)
  simpa [numN] using this
theorem numN_lt (l : List Bool) : numN l < 2 ^ l.length := by
  induction l with
  | nil => simp [numN]
  | cons b l ih =>
    rw [numN_cons, List.length_cons, Nat.pow_succ]
    cases b <;> simp <;> omega
theorem numN_ofN (n w : Nat) : numN (ofN n w) = n % 2 ^ w := by
  induction w with
  | zero => simp [ofN, numN, Nat.mod_one]
  | succ w ih =>
    simp only [ofN]
    rw [numN_cons, ofN_length, ih, Nat.mod_pow_succ, Nat.toNat_testBit]
    rw [Nat.mul_comm, Nat.add_comm]
theorem num64_ofN (n w : Nat) (hn : n < 18446744073709551616) (hw : 64 ≤ w) : num64 (ofN n w) = n := by
  rw [num64_eq, numN_ofN]
  have : n < 2 ^ w := Nat.lt_of_lt_of_le hn (show (18446744073709551616 : Nat) ≤ 2 ^ w from Nat.pow_le_pow_right (n := 2) (by omega) hw)
  rw [Nat.mod_eq_of_lt this, Nat.mod_eq_of_lt hn]
theorem num64_small (l : List Bool) (h : l.length ≤ 64) : num64 l = numN l := by
  rw [num64_eq]
  exact Nat.mod_eq_of_lt (Nat.lt_of_lt_of_le (numN_lt l) (Nat.pow_le_pow_right (n := 2) (by omega) h))
theorem ofN_numN (l : List Bool) : ofN (numN l) l.length = l := by
  induction l with
  | nil => rfl
  | cons b l ih =>
    simp only [List.length_cons, ofN, numN_cons]
    have h := numN_lt l
    have h1 : (b.toNat * 2 ^ l.length + numN l).testBit l.length = b := by
      rw [Nat.testBit_eq_decide_div_mod_eq, Nat.mul_comm, Nat.mul_add_div (Nat.two_pow_pos _), Nat.div_eq_of_lt h]
      cases b <;> simp
    have h2 : ofN (b.toNat * 2 ^ l.length + numN l) l.length = ofN (numN l) l.length := by
      rw [← ofN_mod _ l.length l.length (Nat.le_refl _), Nat.mul_comm, Nat.mul_add_mod, ofN_mod _ _ _ (Nat.le_refl _)]
    rw [h1, h2, ih]
theorem ofN_cut (n a b : Nat) : ofN n (a + b) = ofN (n / 2 ^ b) a ++ ofN n b := by
  induction a with
  | zero => simp [ofN]
  | succ a ih =>
    have : a + 1 + b = (a + b) + 1 := by omega
    rw [this]
    simp only [ofN, List.cons_append]
    rw [ih, Nat.testBit_div_two_pow]

/-! ### Bytes -/
theorem zip_self (l : List Bool) : List.zipWith (· && ·) l l = l := by
  induction l with
  | nil => rfl
  | cons b l ih => simp [ih]
end Go.Proofs.YtpkpnaedacefaaaGreat.Bits

/- What the plugged functions answer on rows of bits. -/
namespace Go.Proofs.YtpkpnaedacefaaaGreat.Facts
set_option linter.unusedVariables false
set_option linter.unusedSimpArgs false
open Go Go.RowKit Go.Proofs.YtpkpnaedacefaaaGreat.Lib Go.Proofs.YtpkpnaedacefaaaGreat.Bits Go.Proofs.YtpkpnaedacefaaaGreat.BitsW

theorem B_list (l : List Bool) : (B l).toList = l.map sg := by rw [Go.ByteArray.toList_eq, B_toList]
theorem map_sg_inj {a b : List Bool} : a.map sg = b.map sg ↔ a = b := by
  refine ⟨fun h => ?_, fun h => by rw [h]⟩
  have := congrArg (List.map (fun c => c == 49)) h
  simp only [List.map_map] at this
  have e : ((fun c => c == 49) ∘ sg) = id := by funext x; exact sg_eq x
  simpa [e] using this
theorem text_eq (a b : ByteArray) : (a.toList = b.toList) ↔ a = b := by
  rw [Go.ByteArray.toList_eq, Go.ByteArray.toList_eq]
  exact ⟨fun h => ByteArray.ext (Array.ext' h), fun h => by rw [h]⟩
theorem B_eq (a b : List Bool) : B a = B b ↔ a = b := ⟨B_inj, fun h => by rw [h]⟩
theorem wid_mod (x : Int) (h : 0 ≤ x ∧ x ≤ 255) : wid (wrap64 (Int.tmod x 65)) = (x % 65).toNat := by
  unfold wid wrap64
  rw [Int.tmod_eq_emod_of_nonneg h.1]
  omega
theorem wid_of (n : Nat) (h : n ≤ 64) : wid (n : Int) = n := by unfold wid; omega

theorem B_extract (l : List Bool) (i j : Nat) : (B l).extract i j = B ((l.drop i).take (j - i)) := by
  apply ByteArray.ext
  rw [ByteArray.data_extract]
  apply Array.ext'
  simp [B, List.map_drop, List.map_take]
theorem toB_fromB (l : List UInt8) : toB (fromB l) = l := by
  apply List.ext_getElem
  · simp [toB_length, fromB_length]
  · intro i h1 h2
    simp only [toB, List.getElem_map, List.getElem_range]
    have hcut : ((fromB l).drop (8 * i)).take 8 = ofN (l[i].toNat) 8 := by
      clear h1
      induction l generalizing i with
      | nil => simp at h2
      | cons c l ih =>
        cases i with
        | zero =>
          simp only [fromB, List.flatMap_cons, Nat.mul_zero, List.drop_zero, List.getElem_cons_zero]
          rw [List.take_append_of_le_length (by rw [ofN_length]; exact Nat.le_refl _), List.take_of_length_le (by rw [ofN_length]; exact Nat.le_refl _)]
        | succ i =>
          have e : 8 * (i + 1) = 8 + 8 * i := by omega
          have e2 : fromB (c :: l) = ofN c.toNat 8 ++ fromB l := rfl
          rw [e, e2, ← List.drop_drop, List.drop_left' (ofN_length _ 8)]
          exact ih i (by simpa using h2)
    rw [hcut, num64_small _ (by rw [ofN_length]; omega), numN_ofN]
    have := l[i].toNat_lt
    rw [Nat.mod_eq_of_lt (by simpa using this)]
    simp
end Go.Proofs.YtpkpnaedacefaaaGreat.Facts

/- Bits laid between, as lists of Bools. -/
namespace Go.Proofs.YtpkpnaedacefaaaGreat.Bits
set_option linter.unusedVariables false
set_option linter.unusedSimpArgs false
open Go Go.RowKit
/-- How many alike a row ends with, when one more comes. -/
def runK (n : Nat) (b c : Bool) : Nat := if n > 0 ∧ b = c then n + 1 else 1
/-- Bits laid between, behind a row that ends with n bits b. -/
def stuffL : Nat → Bool → List Bool → List Bool
  | _, _, [] => []
  | n, b, c :: l => if runK n b c = 5 then c :: (!c) :: stuffL 1 (!c) l else c :: stuffL (runK n b c) c l
/-- Taken away again: what is left, the last bits alike, where a sixth alike is. -/
def unstuffL : Nat → Bool → Nat → List Bool → List Bool × Nat × Bool × Option Nat
  | n, b, _, [] => ([], n, b, none)
  | n, b, i, c :: l => if n = 5 ∧ b = c then ([], n, b, some i) else
      ((if n = 5 then (unstuffL (runK n b c) c (i + 1) l).1 else c :: (unstuffL (runK n b c) c (i + 1) l).1), (unstuffL (runK n b c) c (i + 1) l).2)
/-- The last bits alike of a row. -/
def runL : Nat → Bool → List Bool → Nat × Bool
  | n, b, [] => (n, b)
  | n, b, c :: l => runL (runK n b c) c l
theorem runK_le (n : Nat) (b c : Bool) (h : n ≤ 5) (h2 : ¬ (n = 5 ∧ b = c)) : 1 ≤ runK n b c ∧ runK n b c ≤ 5 := by
  unfold runK
  split
  · rename_i h3
    refine ⟨by omega, ?_⟩
    have : n ≠ 5 := fun e => h2 ⟨e, h3.2⟩
    omega
  · omega
/-- Stuff. -/
def stuff (l : List Bool) : List Bool := stuffL 0 false l
/-- Which bit must come next. -/
def nextL (l : List Bool) : Int := match unstuffL 0 false 0 l with
  | (_, n, b, at_) => if at_.isSome then -2 else if n = 5 then (if b then 0 else 1) else -1
/-- How many bits there are at most. -/
def mostI (n : Int) : Int := if (min (max n 0) 10000) < 5 then min (max n 0) 10000 else min (max n 0) 10000 + 1 + (min (max n 0) 10000 - 5) / 4
theorem unstuff_run : ∀ (l : List Bool) (n : Nat) (b : Bool) (i : Nat), (unstuffL n b i l).2.2.2 = none → ((unstuffL n b i l).2.1, (unstuffL n b i l).2.2.1) = runL n b l
  | [], _, _, _, _ => rfl
  | c :: l, n, b, i, h => by
    unfold unstuffL at h ⊢
    by_cases h5 : n = 5 ∧ b = c
    · rw [if_pos h5] at h; cases h
    · rw [if_neg h5] at h ⊢
      simp only at h ⊢
      exact unstuff_run l _ _ _ h
theorem stuffL_length : ∀ (l : List Bool) (n : Nat) (b : Bool), l.length ≤ (stuffL n b l).length ∧ (stuffL n b l).length ≤ 2 * l.length
  | [], _, _ => by simp [stuffL]
  | c :: l, n, b => by
    unfold stuffL
    split
    · have := stuffL_length l 1 (!c); simp; omega
    · have := stuffL_length l (runK n b c) c; simp; omega
end Go.Proofs.YtpkpnaedacefaaaGreat.Bits
