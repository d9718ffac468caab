/- The document's layer 2 (package ostinatoref1): Stuff, Unstuff, Next, walked by hand. -/
import Derived.Test.YtpkpnaedacefaaaStuffA
import Derived.Test.YtpkpnaedacefaaaFrameA
namespace Go.Proofs.Ytpkpnaedacefaaa.RefW
set_option linter.unusedVariables false
set_option linter.unusedSimpArgs false
open Go Go.RowKit Go.Proofs.Ytpkpnaedacefaaa.Lib Go.Proofs.Ytpkpnaedacefaaa.Bits Go.Proofs.Ytpkpnaedacefaaa.BitsW Go.Proofs.Ytpkpnaedacefaaa.StuffW Go.Proofs.Ytpkpnaedacefaaa.Frame Go.Proofs.Ytpkpnaedacefaaa.PrintMore

/-- A bit's sign as a number; a run of none has 0. -/
def sg0 (n : Nat) (b : Bool) : Int := if n = 0 then 0 else ((sg b).toNat : Int)
theorem sg0_of (n : Nat) (b : Bool) (h : n ≠ 0) : sg0 n b = ((sg b).toNat : Int) := if_neg h
theorem byte_bit (s : ByteArray) (k : Nat) (h : k < s.size) (hl : k < (bitsOf s).length) : (((s[k]'h).toNat : Int) == 49) = (bitsOf s)[k] := by
  rw [bit_at s k h, List.getD_eq_getElem?_getD, List.getElem?_eq_getElem hl]; rfl

end Go.Proofs.Ytpkpnaedacefaaa.RefW
