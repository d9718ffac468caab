/- A reader of a frame's bits, bit by bit, in plain Lean, with no program in sight. -/
import Derived.Test.YtpkpnaedacefaaaGreatFrameA
namespace Go.Proofs.YtpkpnaedacefaaaGreat.Code
set_option linter.unusedVariables false
set_option linter.unusedSimpArgs false
open Go Go.Proofs.YtpkpnaedacefaaaGreat.Bits Go.Proofs.YtpkpnaedacefaaaGreat.BitsW Go.Proofs.YtpkpnaedacefaaaGreat.Frame

/-- A reader: the last bits alike, the bits without those laid between, how many there must be ahead of the sum (0: not known), the sum, how many came behind it, whether the bit behind it was laid. -/
structure Rd where
  rn : Nat
  rb : Bool
  b : List Bool
  need : Nat
  sum : Nat
  en : Nat
  laid : Bool
def Rd.zero : Rd := ⟨0, false, [], 0, 0, 0, false⟩
def Rd.inBits (r : Rd) : Bool := r.need == 0 || decide (r.b.length < r.need + 15)
def Rd.right (r : Rd) : Bool := !r.inBits && r.sum == 0
def Rd.add (r : Rd) (c : Bool) : Rd × Nat :=
  if r.need ≠ 0 then ({ r with b := r.b ++ [c], sum := addC r.sum c }, 0)
  else if (needL (r.b ++ [c])).2 ≠ 0 then ({ r with b := r.b ++ [c], sum := addC r.sum c }, (needL (r.b ++ [c])).2)
  else ({ r with b := r.b ++ [c], sum := addC r.sum c, need := (needL (r.b ++ [c])).1 }, 0)
def Rd.tail (r : Rd) (c : Bool) : Rd × Nat :=
  ({ r with en := r.en + 1 }, if r.en + 1 = 2 then 0 else if c = false then 12 else if r.en + 1 = 3 ∧ r.right = false then 40 else 0)
def Rd.push (r : Rd) (c : Bool) : Rd × Nat :=
  if r.inBits = true ∨ (r.rn = 5 ∧ r.laid = false ∧ r.en = 0) then
    if r.rn = 5 then
      if c = r.rb then (r, 20)
      else ({ r with rn := 1, rb := c, laid := !r.inBits }, 0)
    else Rd.add { r with rn := runK r.rn r.rb c, rb := c } c
  else r.tail c
/-- The frame, how many bits or the place, the error. -/
def decodeL (r : Rd) (i : Nat) : List Bool → (Bool × Nat × Bool × List UInt8) × Nat × Nat
  | [] => ((false, 0, false, []), i, 10)
  | c :: l => if (r.push c).2 ≠ 0 then ((false, 0, false, []), i, (r.push c).2) else if (r.push c).1.en = 10 then ((parseL (r.push c).1.b).1, i + 1, 0) else decodeL (r.push c).1 (i + 1) l
end Go.Proofs.YtpkpnaedacefaaaGreat.Code
