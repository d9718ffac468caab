/- The document's rows of bits (package ostinatoref1), in the form in which the printed texts ask for them: total functions on rows of Bools. -/
import Derived.Test.YtpmbapefchffjaaRef1
namespace Go.Proofs.Ytpmbapefchffjaa.Plug
set_option linter.unusedVariables false
set_option linter.unusedSimpArgs false
open Go Go.RowKit Go.Proofs.Ytpmbapefchffjaa.Lib Go.Proofs.Ytpmbapefchffjaa.Bits Go.Proofs.Ytpmbapefchffjaa.BitsW Go.Proofs.YtpmbapefchffjaaW.PrintWords

def ostinatoref1_Is.f (a0 : ByteArray) : Option (Bool) := if a0.size ≤ 140737488351232 then some (isB a0.data.toList) else none
theorem ostinatoref1_Is.calls (a0 : ByteArray) (r : Bool) (w : World) (h : ostinatoref1_Is.f a0 = some r) : Calls Try.prog 13 #[.string a0] w fun e w' => e = .returned (.bool r) ∧ Drawn0 w w' := by
  unfold ostinatoref1_Is.f at h
  split at h
  · rename_i hc
    simp only [Option.some.injEq] at h
    subst h
    exact QRef1.ostinatoref1_Is.calls (a0.size + 1) a0 _ w (Ref1.is_eq a0 hc _ (by omega))
  · cases h
def ostinatoref1_Of.f (a0 : Int) (a1 : Int) : Option (ByteArray) := if 0 ≤ a0 ∧ a0 < 18446744073709551616 then some (B (ofN a0.toNat (wid a1))) else none
theorem ostinatoref1_Of.calls (a0 : Int) (a1 : Int) (r : ByteArray) (w : World) (h : ostinatoref1_Of.f a0 a1 = some r) : Calls Try.prog 15 #[.int .u64 a0, .int .i64 a1] w fun e w' => e = .returned (.string r) ∧ Below w.heap.size w w' := by
  unfold ostinatoref1_Of.f at h
  split at h
  · rename_i hc
    simp only [Option.some.injEq] at h
    subst h
    exact QRef1.ostinatoref1_Of.calls 65 a0 a1 _ w (by have := Ref1.of_eq a0.toNat (by omega) a1 65 (by omega); rw [Int.toNat_of_nonneg hc.1] at this; exact this)
  · cases h
def ostinatoref1_Num.f (a0 : ByteArray) : Option (Int) := if a0.size ≤ 140737488351232 then some ((num64 (bitsOf a0) : Int)) else none
theorem ostinatoref1_Num.calls (a0 : ByteArray) (r : Int) (w : World) (h : ostinatoref1_Num.f a0 = some r) : Calls Try.prog 17 #[.string a0] w fun e w' => e = .returned (.int .u64 r) ∧ Drawn0 w w' := by
  unfold ostinatoref1_Num.f at h
  split at h
  · rename_i hc
    simp only [Option.some.injEq] at h
    subst h
    exact QRef1.ostinatoref1_Num.calls (a0.size + 1) a0 _ w (Ref1.num_eq a0 hc _ (by omega))
  · cases h
def ostinatoref1_And.f (a0 : ByteArray) (a1 : ByteArray) : Option (ByteArray) := if a0.size ≤ 140737488351232 ∧ a1.size ≤ 140737488351232 then some (B (List.zipWith (· && ·) (bitsOf a0) (bitsOf a1))) else none
theorem ostinatoref1_And.calls (a0 : ByteArray) (a1 : ByteArray) (r : ByteArray) (w : World) (h : ostinatoref1_And.f a0 a1 = some r) : Calls Try.prog 19 #[.string a0, .string a1] w fun e w' => e = .returned (.string r) ∧ Drawn0 w w' := by
  unfold ostinatoref1_And.f at h
  split at h
  · rename_i hc
    simp only [Option.some.injEq] at h
    subst h
    exact QRef1.ostinatoref1_And.calls (a0.size + 1) a0 a1 _ w (Ref1.and_eq a0 a1 hc.1 hc.2 _ (by omega))
  · cases h
def ostinatoref1_Turn.f (a0 : ByteArray) (a1 : Int) : Option (ByteArray) := if a0.size ≤ 140737488351232 then some (B (turnI (bitsOf a0) a1)) else none
theorem ostinatoref1_Turn.calls (a0 : ByteArray) (a1 : Int) (r : ByteArray) (w : World) (h : ostinatoref1_Turn.f a0 a1 = some r) : Calls Try.prog 21 #[.string a0, .int .i64 a1] w fun e w' => e = .returned (.string r) ∧ Drawn0 w w' := by
  unfold ostinatoref1_Turn.f at h
  split at h
  · rename_i hc
    simp only [Option.some.injEq] at h
    subst h
    exact QRef1.ostinatoref1_Turn.calls (a0.size + 1) a0 a1 _ w (Ref1.turn_eq a0 a1 hc _ (by omega))
  · cases h
def ostinatoref1_FromBytes.f (a0 : ByteArray) : Option (ByteArray) := if a0.size ≤ 1099511627776 then some (B (fromB a0.data.toList)) else none
theorem ostinatoref1_FromBytes.calls (a0 : ByteArray) (r : ByteArray) (w : World) (h : ostinatoref1_FromBytes.f a0 = some r) : Calls Try.prog 23 #[.string a0] w fun e w' => e = .returned (.string r) ∧ Below w.heap.size w w' := by
  unfold ostinatoref1_FromBytes.f at h
  split at h
  · rename_i hc
    simp only [Option.some.injEq] at h
    subst h
    exact QRef1.ostinatoref1_FromBytes.calls (a0.size + 65) a0 _ w (Ref1.from_eq a0 hc _ (by omega))
  · cases h
def ostinatoref1_Bytes.f (a0 : ByteArray) : Option (ByteArray) := if a0.size ≤ 140737488351232 then some ((⟨(toB (bitsOf a0)).toArray⟩ : ByteArray)) else none
theorem ostinatoref1_Bytes.calls (a0 : ByteArray) (r : ByteArray) (w : World) (h : ostinatoref1_Bytes.f a0 = some r) : Calls Try.prog 25 #[.string a0] w fun e w' => e = .returned (.string r) ∧ Below w.heap.size w w' := by
  unfold ostinatoref1_Bytes.f at h
  split at h
  · rename_i hc
    simp only [Option.some.injEq] at h
    subst h
    exact QRef1.ostinatoref1_Bytes.calls (a0.size + 9) a0 _ w (Ref1.bytes_eq a0 hc _ (by omega))
  · cases h
def ostinatoref1_CRC.f (a0 : ByteArray) : Option (Int) := if a0.size ≤ 140737488351232 then some ((crcN (bitsOf a0) : Int)) else none
theorem ostinatoref1_CRC.calls (a0 : ByteArray) (r : Int) (w : World) (h : ostinatoref1_CRC.f a0 = some r) : Calls Try.prog 27 #[.string a0] w fun e w' => e = .returned (.int .u16 r) ∧ Drawn0 w w' := by
  unfold ostinatoref1_CRC.f at h
  split at h
  · rename_i hc
    simp only [Option.some.injEq] at h
    subst h
    exact QRef1.ostinatoref1_CRC.calls (a0.size + 1) a0 _ w (Ref1.crc_eq a0 hc _ (by omega))
  · cases h
def ostinatoref1_Bit.f (a0 : Bool) : Option (ByteArray) := some (B [a0])
theorem ostinatoref1_Bit.calls (a0 : Bool) (r : ByteArray) (w : World) (h : ostinatoref1_Bit.f a0 = some r) : Calls Try.prog 29 #[.bool a0] w fun e w' => e = .returned (.string r) ∧ Drawn0 w w' := by
  refine QRef1.ostinatoref1_Bit.calls a0 r w ?_
  rw [← h]
  exact Ref1.bit_eq a0
end Go.Proofs.Ytpmbapefchffjaa.Plug
