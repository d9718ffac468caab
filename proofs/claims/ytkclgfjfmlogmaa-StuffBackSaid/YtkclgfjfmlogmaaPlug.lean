/- The contracts of the walks by hand, in the form in which the printed texts ask for them. -/
import Derived.Test.YtkclgfjfmlogmaaBitsWalksC
import Derived.Test.YtkclgfjfmlogmaaWMore
import Derived.Test.YtkclgfjfmlogmaaWWords
namespace Go.Proofs.Ytkclgfjfmlogmaa.Plug
set_option linter.unusedVariables false
set_option linter.unusedSimpArgs false
open Go Go.RowKit Go.Proofs.Ytkclgfjfmlogmaa.Lib Go.Proofs.Ytkclgfjfmlogmaa.Bits Go.Proofs.Ytkclgfjfmlogmaa.BitsW Go.Proofs.YtkclgfjfmlogmaaW.PrintWords

theorem drawn_same {w w' : World} (h : w = w') : Drawn0 w w' := by subst h; exact Drawn0.refl _

def bits_Is.f (a0 : ByteArray) : Option Bool := if a0.size ≤ 140737488351232 then some (isB a0.data.toList) else none
def bits_Of.f (a0 a1 : Int) : Option ByteArray := if 0 ≤ a0 ∧ a0 < 18446744073709551616 then some (B (ofN a0.toNat (wid a1))) else none
def bits_Num.f (a0 : ByteArray) : Option Int := if a0.size ≤ 140737488351232 then some (num64 (bitsOf a0) : Int) else none
def bits_CRC.f (a0 : ByteArray) : Option Int := if a0.size ≤ 140737488351232 then some (crcN (bitsOf a0) : Int) else none
def bits_And.f (a0 a1 : ByteArray) : Option ByteArray := if a0.size ≤ 140737488351232 ∧ a1.size ≤ 140737488351232 then some (B (List.zipWith (· && ·) (bitsOf a0) (bitsOf a1))) else none
def bits_Turn.f (a0 : ByteArray) (a1 : Int) : Option ByteArray := if a0.size ≤ 140737488351232 then some (B (turnI (bitsOf a0) a1)) else none
theorem bits_Turn.calls (a0 : ByteArray) (a1 : Int) (r : ByteArray) (w : World) (h : bits_Turn.f a0 a1 = some r) : Calls Try.prog 22 #[.string a0, .int .i64 a1] w fun e w' => e = .returned (.string r) ∧ Below w.heap.size w w' := by
  unfold bits_Turn.f at h
  split at h
  · simp only [Option.some.injEq] at h; subst h
    exact turn_calls a0 a1 w (by assumption)
  · cases h
def bits_FromBytes.f (a0 : ByteArray) : Option ByteArray := if a0.size ≤ 1099511627776 then some (B (fromB a0.data.toList)) else none
def bits_Bytes.f (a0 : ByteArray) : Option ByteArray := if a0.size ≤ 140737488351232 then some ⟨(toB (bitsOf a0)).toArray⟩ else none
end Go.Proofs.Ytkclgfjfmlogmaa.Plug
