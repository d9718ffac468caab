/- The document's rows of bits (package ostinatoref1), in the form in which the printed texts ask for them: total functions on rows of Bools. -/
import Derived.Test.YtkclgfjfmlogmaaRef1
namespace Go.Proofs.Ytkclgfjfmlogmaa.Plug
set_option linter.unusedVariables false
set_option linter.unusedSimpArgs false
open Go Go.RowKit Go.Proofs.Ytkclgfjfmlogmaa.Lib Go.Proofs.Ytkclgfjfmlogmaa.Bits Go.Proofs.Ytkclgfjfmlogmaa.BitsW Go.Proofs.YtkclgfjfmlogmaaW.PrintWords

def ostinatoref1_Is.f (a0 : ByteArray) : Option (Bool) := if a0.size ≤ 140737488351232 then some (isB a0.data.toList) else none
def ostinatoref1_Of.f (a0 : Int) (a1 : Int) : Option (ByteArray) := if 0 ≤ a0 ∧ a0 < 18446744073709551616 then some (B (ofN a0.toNat (wid a1))) else none
theorem ostinatoref1_Of.calls (a0 : Int) (a1 : Int) (r : ByteArray) (w : World) (h : ostinatoref1_Of.f a0 a1 = some r) : Calls Try.prog 10 #[.int .u64 a0, .int .i64 a1] w fun e w' => e = .returned (.string r) ∧ Below w.heap.size w w' := by
  unfold ostinatoref1_Of.f at h
  split at h
  · rename_i hc
    simp only [Option.some.injEq] at h
    subst h
    exact QRef1.ostinatoref1_Of.calls 65 a0 a1 _ w (by have := Ref1.of_eq a0.toNat (by omega) a1 65 (by omega); rw [Int.toNat_of_nonneg hc.1] at this; exact this)
  · cases h
def ostinatoref1_Num.f (a0 : ByteArray) : Option (Int) := if a0.size ≤ 140737488351232 then some ((num64 (bitsOf a0) : Int)) else none
def ostinatoref1_And.f (a0 : ByteArray) (a1 : ByteArray) : Option (ByteArray) := if a0.size ≤ 140737488351232 ∧ a1.size ≤ 140737488351232 then some (B (List.zipWith (· && ·) (bitsOf a0) (bitsOf a1))) else none
def ostinatoref1_Turn.f (a0 : ByteArray) (a1 : Int) : Option (ByteArray) := if a0.size ≤ 140737488351232 then some (B (turnI (bitsOf a0) a1)) else none
def ostinatoref1_FromBytes.f (a0 : ByteArray) : Option (ByteArray) := if a0.size ≤ 1099511627776 then some (B (fromB a0.data.toList)) else none
def ostinatoref1_Bytes.f (a0 : ByteArray) : Option (ByteArray) := if a0.size ≤ 140737488351232 then some ((⟨(toB (bitsOf a0)).toArray⟩ : ByteArray)) else none
def ostinatoref1_CRC.f (a0 : ByteArray) : Option (Int) := if a0.size ≤ 140737488351232 then some ((crcN (bitsOf a0) : Int)) else none
def ostinatoref1_Bit.f (a0 : Bool) : Option (ByteArray) := some (B [a0])
theorem ostinatoref1_Bit.calls (a0 : Bool) (r : ByteArray) (w : World) (h : ostinatoref1_Bit.f a0 = some r) : Calls Try.prog 16 #[.bool a0] w fun e w' => e = .returned (.string r) ∧ Drawn0 w w' := by
  refine QRef1.ostinatoref1_Bit.calls a0 r w ?_
  rw [← h]
  exact Ref1.bit_eq a0
end Go.Proofs.Ytkclgfjfmlogmaa.Plug
