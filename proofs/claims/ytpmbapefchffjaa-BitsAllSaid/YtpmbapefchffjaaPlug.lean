/- The contracts of the walks by hand, in the form in which the printed texts ask for them. -/
import Derived.Test.YtpmbapefchffjaaBitsWalksC
import Derived.Test.YtpmbapefchffjaaWMore
import Derived.Test.YtpmbapefchffjaaWWords
namespace Go.Proofs.Ytpmbapefchffjaa.Plug
set_option linter.unusedVariables false
set_option linter.unusedSimpArgs false
open Go Go.RowKit Go.Proofs.Ytpmbapefchffjaa.Lib Go.Proofs.Ytpmbapefchffjaa.Bits Go.Proofs.Ytpmbapefchffjaa.BitsW Go.Proofs.YtpmbapefchffjaaW.PrintWords

theorem drawn_same {w w' : World} (h : w = w') : Drawn0 w w' := by subst h; exact Drawn0.refl _

def bits_Is.f (a0 : ByteArray) : Option Bool := if a0.size ≤ 140737488351232 then some (isB a0.data.toList) else none
theorem bits_Is.calls (a0 : ByteArray) (r : Bool) (w : World) (h : bits_Is.f a0 = some r) : Calls Try.prog 12 #[.string a0] w fun e w' => e = .returned (.bool r) ∧ Drawn0 w w' := by
  unfold bits_Is.f at h
  split at h
  · simp only [Option.some.injEq] at h; subst h
    exact (is_calls a0 w (by assumption)).mono fun _ _ ⟨h1, h2⟩ => ⟨h1, drawn_same h2⟩
  · cases h
def bits_Of.f (a0 a1 : Int) : Option ByteArray := if 0 ≤ a0 ∧ a0 < 18446744073709551616 then some (B (ofN a0.toNat (wid a1))) else none
theorem bits_Of.calls (a0 a1 : Int) (r : ByteArray) (w : World) (h : bits_Of.f a0 a1 = some r) : Calls Try.prog 14 #[.int .u64 a0, .int .i64 a1] w fun e w' => e = .returned (.string r) ∧ Below w.heap.size w w' := by
  unfold bits_Of.f at h
  split at h
  · rename_i hc
    simp only [Option.some.injEq] at h; subst h
    have := of_calls a0.toNat a1 w (by omega)
    rw [Int.toNat_of_nonneg hc.1] at this
    exact this
  · cases h
def bits_Num.f (a0 : ByteArray) : Option Int := if a0.size ≤ 140737488351232 then some (num64 (bitsOf a0) : Int) else none
theorem bits_Num.calls (a0 : ByteArray) (r : Int) (w : World) (h : bits_Num.f a0 = some r) : Calls Try.prog 16 #[.string a0] w fun e w' => e = .returned (.int .u64 r) ∧ Drawn0 w w' := by
  unfold bits_Num.f at h
  split at h
  · simp only [Option.some.injEq] at h; subst h
    exact (num_calls a0 w (by assumption)).mono fun _ _ ⟨h1, h2⟩ => ⟨h1, drawn_same h2⟩
  · cases h
def bits_CRC.f (a0 : ByteArray) : Option Int := if a0.size ≤ 140737488351232 then some (crcN (bitsOf a0) : Int) else none
theorem bits_CRC.calls (a0 : ByteArray) (r : Int) (w : World) (h : bits_CRC.f a0 = some r) : Calls Try.prog 26 #[.string a0] w fun e w' => e = .returned (.int .u16 r) ∧ Drawn0 w w' := by
  unfold bits_CRC.f at h
  split at h
  · simp only [Option.some.injEq] at h; subst h
    exact (crc_calls a0 w (by assumption)).mono fun _ _ ⟨h1, h2⟩ => ⟨h1, drawn_same h2⟩
  · cases h
def bits_And.f (a0 a1 : ByteArray) : Option ByteArray := if a0.size ≤ 140737488351232 ∧ a1.size ≤ 140737488351232 then some (B (List.zipWith (· && ·) (bitsOf a0) (bitsOf a1))) else none
theorem bits_And.calls (a0 a1 : ByteArray) (r : ByteArray) (w : World) (h : bits_And.f a0 a1 = some r) : Calls Try.prog 18 #[.string a0, .string a1] w fun e w' => e = .returned (.string r) ∧ Below w.heap.size w w' := by
  unfold bits_And.f at h
  split at h
  · rename_i hc
    simp only [Option.some.injEq] at h; subst h
    exact and_calls a0 a1 w hc.1 hc.2
  · cases h
def bits_Turn.f (a0 : ByteArray) (a1 : Int) : Option ByteArray := if a0.size ≤ 140737488351232 then some (B (turnI (bitsOf a0) a1)) else none
theorem bits_Turn.calls (a0 : ByteArray) (a1 : Int) (r : ByteArray) (w : World) (h : bits_Turn.f a0 a1 = some r) : Calls Try.prog 20 #[.string a0, .int .i64 a1] w fun e w' => e = .returned (.string r) ∧ Below w.heap.size w w' := by
  unfold bits_Turn.f at h
  split at h
  · simp only [Option.some.injEq] at h; subst h
    exact turn_calls a0 a1 w (by assumption)
  · cases h
def bits_FromBytes.f (a0 : ByteArray) : Option ByteArray := if a0.size ≤ 1099511627776 then some (B (fromB a0.data.toList)) else none
theorem bits_FromBytes.calls (a0 : ByteArray) (r : ByteArray) (w : World) (h : bits_FromBytes.f a0 = some r) : Calls Try.prog 22 #[.string a0] w fun e w' => e = .returned (.string r) ∧ Below w.heap.size w w' := by
  unfold bits_FromBytes.f at h
  split at h
  · simp only [Option.some.injEq] at h; subst h
    exact fromBytes_calls a0 w (by assumption)
  · cases h
def bits_Bytes.f (a0 : ByteArray) : Option ByteArray := if a0.size ≤ 140737488351232 then some ⟨(toB (bitsOf a0)).toArray⟩ else none
theorem bits_Bytes.calls (a0 : ByteArray) (r : ByteArray) (w : World) (h : bits_Bytes.f a0 = some r) : Calls Try.prog 24 #[.string a0] w fun e w' => e = .returned (.string r) ∧ Below w.heap.size w w' := by
  unfold bits_Bytes.f at h
  split at h
  · simp only [Option.some.injEq] at h; subst h
    exact bytes_calls a0 w (by assumption)
  · cases h
end Go.Proofs.Ytpmbapefchffjaa.Plug
