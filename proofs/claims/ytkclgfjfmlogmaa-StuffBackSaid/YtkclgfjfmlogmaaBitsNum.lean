/- Sums of rows of bits, as plain numbers; Go's operations on unsigned numbers as those of natural numbers. -/
import Derived.Test.YtkclgfjfmlogmaaBitsSpec
import Derived.WalkKit
namespace Go.Proofs.Ytkclgfjfmlogmaa.Bits
set_option linter.unusedVariables false
set_option linter.unusedSimpArgs false
open Go Go.RowKit

theorem u_ops (k : IntKind) (N : Nat) (hk : k.bits = N) (hw : ∀ x : Nat, x < 2 ^ N → k.wrap (x : Int) = (x : Int)) (a b : Nat) (ha : a < 2 ^ N) (hb : b < 2 ^ N) :
    Go.bits .and k (a : Int) (b : Int) = ((a &&& b : Nat) : Int) ∧ Go.bits .or k (a : Int) (b : Int) = ((a ||| b : Nat) : Int) ∧ Go.bits .xor k (a : Int) (b : Int) = ((a ^^^ b : Nat) : Int) := by
  subst hk
  have h1 : ∀ x : Nat, x < 2 ^ k.bits → (BitVec.ofInt k.bits (x : Int)).toNat = x := by
    intro x hx
    simp [BitVec.toNat_ofNat, Nat.mod_eq_of_lt hx]
  refine ⟨?_, ?_, ?_⟩
  · simp only [Go.bits, BitVec.toNat_and, h1 a ha, h1 b hb]
    exact hw _ (Nat.and_lt_two_pow _ hb)
  · simp only [Go.bits, BitVec.toNat_or, h1 a ha, h1 b hb]
    exact hw _ (Nat.or_lt_two_pow ha hb)
  · simp only [Go.bits, BitVec.toNat_xor, h1 a ha, h1 b hb]
    exact hw _ (Nat.xor_lt_two_pow ha hb)
theorem wrap_u16 (x : Nat) (hx : x < 2 ^ 16) : IntKind.u16.wrap (x : Int) = (x : Int) := by
  simp [IntKind.wrap, IntKind.signed, IntKind.bits]; omega
theorem wrap_u64 (x : Nat) (hx : x < 2 ^ 64) : IntKind.u64.wrap (x : Int) = (x : Int) := by
  simp [IntKind.wrap, IntKind.signed, IntKind.bits]; omega
theorem u16_ops (a b : Nat) (ha : a < 2 ^ 16) (hb : b < 2 ^ 16) : Go.bits .and .u16 (a : Int) (b : Int) = ((a &&& b : Nat) : Int) ∧ Go.bits .or .u16 (a : Int) (b : Int) = ((a ||| b : Nat) : Int) ∧ Go.bits .xor .u16 (a : Int) (b : Int) = ((a ^^^ b : Nat) : Int) := u_ops .u16 16 rfl wrap_u16 a b ha hb
theorem u64_ops (a b : Nat) (ha : a < 2 ^ 64) (hb : b < 2 ^ 64) : Go.bits .and .u64 (a : Int) (b : Int) = ((a &&& b : Nat) : Int) ∧ Go.bits .or .u64 (a : Int) (b : Int) = ((a ||| b : Nat) : Int) ∧ Go.bits .xor .u64 (a : Int) (b : Int) = ((a ^^^ b : Nat) : Int) := u_ops .u64 64 rfl wrap_u64 a b ha hb

/-- A sum with one bit more. -/
def addC (c : Nat) (b : Bool) : Nat := ((c * 2) % 32768) ^^^ (if c.testBit 14 != b then 17817 else 0)
/-- The sum of a row of bits. -/
def crcN (l : List Bool) : Nat := l.foldl addC 0
theorem addC_lt (c : Nat) (b : Bool) : addC c b < 32768 := by
  unfold addC
  have : (if (c.testBit 14 != b) = true then 17817 else 0) < 2 ^ 15 := by split <;> omega
  exact Nat.xor_lt_two_pow (n := 15) (by omega) this
theorem crcFold_lt (l : List Bool) (c : Nat) (hc : c < 32768) : l.foldl addC c < 32768 := by
  induction l generalizing c with
  | nil => exact hc
  | cons b l ih => exact ih _ (addC_lt c b)
theorem crcN_lt (l : List Bool) : crcN l < 32768 := crcFold_lt l 0 (by omega)
theorem add_top (c : Nat) (hc : c < 65536) : (Go.bits .and .u16 ((c : Int) / 16384) 1 == 1) = c.testBit 14 := by
  have h := (u16_ops (c / 16384) 1 (by omega) (by omega)).1
  have e : ((c / 16384 : Nat) : Int) = (c : Int) / 16384 := by omega
  rw [e] at h
  rw [show (1 : Int) = ((1 : Nat) : Int) from rfl, h, Nat.and_one_is_mod, Nat.testBit_eq_decide_div_mod_eq, Bool.eq_iff_iff]
  simp only [beq_iff_eq, decide_eq_true_eq]
  have : (2 : Nat) ^ 14 = 16384 := rfl
  rw [this]
  omega
theorem add_low (c : Nat) : Go.bits .and .u16 (IntKind.u16.wrap ((c : Int) * 2)) 32767 = (((c * 2) % 32768 : Nat) : Int) := by
  have e : IntKind.u16.wrap ((c : Int) * 2) = (((c * 2) % 65536 : Nat) : Int) := by simp [IntKind.wrap, IntKind.signed, IntKind.bits]
  rw [e, show (32767 : Int) = ((32767 : Nat) : Int) from rfl, (u16_ops ((c * 2) % 65536) 32767 (by omega) (by omega)).1]
  have : (c * 2) % 65536 &&& 32767 = (c * 2) % 65536 % 2 ^ 15 := Nat.and_two_pow_sub_one_eq_mod _ 15
  rw [this]
  omega
theorem add_xor (x : Nat) (hx : x < 32768) : Go.bits .xor .u16 (x : Int) 17817 = ((x ^^^ 17817 : Nat) : Int) := by
  rw [show (17817 : Int) = ((17817 : Nat) : Int) from rfl]
  exact (u16_ops x 17817 (by omega) (by omega)).2.2

/-- The number of a row of bits, of 64 bits. -/
def num64 (l : List Bool) : Nat := l.foldl (fun a b => (2 * a + b.toNat) % 18446744073709551616) 0
theorem num64_lt (l : List Bool) : num64 l < 18446744073709551616 := by
  have : ∀ (l : List Bool) (a : Nat), a < 18446744073709551616 → l.foldl (fun a b => (2 * a + b.toNat) % 18446744073709551616) a < 18446744073709551616 := by
    intro l
    induction l with
    | nil => intro a h; exact h
    | cons b l ih => intro a _; exact ih _ (Nat.mod_lt _ (by omega))
  exact this l 0 (by omega)
theorem num64_snoc (l : List Bool) (b : Bool) : num64 (l ++ [b]) = (2 * num64 l + b.toNat) % 18446744073709551616 := by simp [num64]
theorem crcN_snoc (l : List Bool) (b : Bool) : crcN (l ++ [b]) = addC (crcN l) b := by simp [crcN]
theorem shl_one (m : Nat) : IntKind.u64.wrap ((m : Int) * 2) = (((2 * m) % 18446744073709551616 : Nat) : Int) := by
  simp [IntKind.wrap, IntKind.signed, IntKind.bits]; omega
theorem or_one (m : Nat) : Go.bits .or .u64 (((2 * m) % 18446744073709551616 : Nat) : Int) 1 = (((2 * m + 1) % 18446744073709551616 : Nat) : Int) := by
  rw [show (1 : Int) = ((1 : Nat) : Int) from rfl, (u64_ops _ 1 (by omega) (by omega)).2.1]
  have h : ∀ k : Nat, (2 * k) ||| 1 = 2 * k + 1 := by
    intro k
    apply Nat.eq_of_testBit_eq
    intro i
    rw [Nat.testBit_or]
    cases i with
    | zero => simp
    | succ i => simp [Nat.testBit_succ, Nat.mul_add_div]
  have e : (2 * m) % 18446744073709551616 = 2 * (m % 9223372036854775808) := by omega
  have e2 : (2 * m + 1) % 18446744073709551616 = 2 * (m % 9223372036854775808) + 1 := by omega
  rw [e, e2, h]
theorem bits_take_snoc (s : ByteArray) (k : Nat) (h : k < s.size) : (bitsOf s).take (k + 1) = (bitsOf s).take k ++ [((s[k]'h).toNat : Int) == 49] := by
  have hl : k < (bitsOf s).length := by rw [bitsOf_length]; exact h
  rw [List.take_succ_eq_append_getElem hl]
  congr 2
  simp only [bitsOf, List.getElem_map, Array.getElem_toList]
  show (s[k] == 49) = _
  rw [Bool.eq_iff_iff]
  simp only [beq_iff_eq]
  constructor
  · intro h2; rw [h2]; rfl
  · intro h2; exact UInt8.toNat_inj.1 (by simpa using (by omega : (s[k]'h).toNat = 49))
end Go.Proofs.Ytkclgfjfmlogmaa.Bits
