/- Rows of bits as lists of Bools: what the document's layer 1 says, in plain Lean, with no program in sight. -/
import Derived.WalkKit
namespace Go.Proofs.Ytkclgfjfmlogmaa.Bits
set_option linter.unusedVariables false
set_option linter.unusedSimpArgs false
open Go

/-- A bit's sign as a byte. -/
def sg (b : Bool) : UInt8 := if b then 49 else 48
/-- A row of bits as a text. -/
def B (l : List Bool) : ByteArray := ⟨(l.map sg).toArray⟩
/-- A text as a row of bits: what is no bit counts as 0. -/
def bitsOf (s : ByteArray) : List Bool := s.data.toList.map (fun c => c == 49)
/-- A number's lowest bits, the highest first. -/
def ofN (n : Nat) : Nat → List Bool
  | 0 => []
  | w + 1 => (n.testBit w) :: ofN n w
/-- The number of a row of bits. -/
def numN (l : List Bool) : Nat := l.foldl (fun a b => 2 * a + b.toNat) 0

theorem size_list (s : ByteArray) : s.data.toList.length = s.size := by rw [Array.length_toList]; rfl
theorem B_size (l : List Bool) : (B l).size = l.length := by
  show (l.map sg).toArray.size = l.length
  simp
theorem B_toList (l : List Bool) : (B l).data.toList = l.map sg := by simp [B]
theorem bitsOf_length (s : ByteArray) : (bitsOf s).length = s.size := by
  show (bitsOf s).length = s.data.size
  simp [bitsOf]
theorem sg_eq (b : Bool) : (sg b == 49) = b := by cases b <;> rfl
theorem bitsOf_B (l : List Bool) : bitsOf (B l) = l := by
  simp only [bitsOf, B_toList, List.map_map]
  have : ((fun c => c == 49) ∘ sg) = id := by funext b; exact sg_eq b
  rw [this, List.map_id]
theorem ofN_length (n w : Nat) : (ofN n w).length = w := by
  induction w with
  | zero => rfl
  | succ w ih => simp [ofN, ih]
theorem B_inj {a b : List Bool} (h : B a = B b) : a = b := by rw [← bitsOf_B a, h, bitsOf_B]
theorem B_append (a b : List Bool) : B a ++ B b = B (a ++ b) := by
  apply ByteArray.ext
  simp [B]
/-- A row of which one bit is the other one. -/
def turn (l : List Bool) (i : Nat) : List Bool := l.modify i (fun b => !b)
/-- Turn, at any place. -/
def turnI (l : List Bool) (at_ : Int) : List Bool := if 0 ≤ at_ ∧ at_ < l.length then turn l at_.toNat else l
theorem turn_length (l : List Bool) (i : Nat) : (turn l i).length = l.length := by simp [turn]
theorem turnI_length (l : List Bool) (i : Int) : (turnI l i).length = l.length := by
  unfold turnI
  split
  · exact turn_length _ _
  · rfl
end Go.Proofs.Ytkclgfjfmlogmaa.Bits
