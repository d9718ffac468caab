/-
  No cell of these rows narrows 'for every input' (looked for: loops, veiled, ifaces, maps, wideKeys, modest, calm, conditions, laid).
  DERIVED. THE GIVEN ROWS OF THIS SEAT. 5 by the template 'for every input the law returns true; each argument reads behind the call as it read before'; 0 by the template 'total and deterministic' (their statements: YtpkpnaedacefaaaTotals.lean).
  GIVEN WITH THE SEED: the statements are not yours to turn. If you find one false, say at which input.
  Laid BY PROGRAM, IN A SANDBOX (cutbox-rows.mjs): the forced cells as the released guide's own fill.sh prints them over the translation 3d4f6e1e4ff0f090… (all of the seat's roots in one cut). By AI agents, Wed Nov 11 2026. No macro, syntax, notation, axiom, sorry.
-/
import Derived.Test.YtpkpnaedacefaaaChecked
import GoSem.Claim
import GoSem.ClaimJoined
import GoSem.ClaimMapViews
import Derived.JoinedTies
import Derived.KernelRfl
namespace Go.Proofs.Ytpkpnaedacefaaa
/- THE CELL 'sum', in the pinned program and in every row, IS THE sha256 OF THE DUMP (.gsa) THAT YtpkpnaedacefaaaProg.lean LOADS. Nothing in Lean hashes anything: it is a label: what it is worth is what the hold of that sum in a sandbox is worth. -/
noncomputable def Try.pinned : Pinned := { name := "ytpkpnaedacefaaa", sum := "3d4f6e1e4ff0f0908c4eca7ae390a2113d62739eb7e6e87f2c7213df8a79fd38", checked := Try.checked }
namespace Rows
def none {H : Type} : Left H := { results := [], args := [] }

/-- 'ostinatolaw8.WireAll': WHATEVER THE INPUT: true; the input reads as it did. -/
def wireAllSpec : ChangeSpec := { name := "wireAll", fn := fun _ => fun
  | [d1, d2, d3] => { results := [.lit (.bool true)], args := [d1, d2, d3] }
  | _ => none }
def wireAllRow : OpenClaim := { program := "ytpkpnaedacefaaa", sum := "3d4f6e1e4ff0f0908c4eca7ae390a2113d62739eb7e6e87f2c7213df8a79fd38", func := "ostinato/ostinatolaw8.WireAll", spec := "wireAll", inPlace := ["internal/bytealg.IndexByteString"], apart := false }
def WireAllSaid : Prop := wireAllRow.holds Try.pinned (OpenSpec.ofChange wireAllSpec)

/-- ITS FALSE NEIGHBOUR: 'it returns false'. Refute it at one input. -/
def wireAllWrong : ChangeSpec := { name := "wireAll", fn := fun _ => fun
  | [d1, d2, d3] => { results := [.lit (.bool false)], args := [d1, d2, d3] }
  | _ => none }
def WireAllWrongFalsely : Prop := wireAllRow.holds Try.pinned (OpenSpec.ofChange wireAllWrong)

/-- 'ostinatolaw8.WireSame': WHATEVER THE INPUT: true; the input reads as it did. -/
def wireSameSpec : ChangeSpec := { name := "wireSame", fn := fun _ => fun
  | [d1, d2] => { results := [.lit (.bool true)], args := [d1, d2] }
  | _ => none }
def wireSameRow : OpenClaim := { program := "ytpkpnaedacefaaa", sum := "3d4f6e1e4ff0f0908c4eca7ae390a2113d62739eb7e6e87f2c7213df8a79fd38", func := "ostinato/ostinatolaw8.WireSame", spec := "wireSame", inPlace := ["internal/bytealg.IndexByteString"], apart := false }
def WireSameSaid : Prop := wireSameRow.holds Try.pinned (OpenSpec.ofChange wireSameSpec)

/-- ITS FALSE NEIGHBOUR: 'it returns false'. Refute it at one input. -/
def wireSameWrong : ChangeSpec := { name := "wireSame", fn := fun _ => fun
  | [d1, d2] => { results := [.lit (.bool false)], args := [d1, d2] }
  | _ => none }
def WireSameWrongFalsely : Prop := wireSameRow.holds Try.pinned (OpenSpec.ofChange wireSameWrong)

/-- 'ostinatolaw8.WireOrder': WHATEVER THE INPUT: true; the input reads as it did. -/
def wireOrderSpec : ChangeSpec := { name := "wireOrder", fn := fun _ => fun
  | [d] => { results := [.lit (.bool true)], args := [d] }
  | _ => none }
def wireOrderRow : OpenClaim := { program := "ytpkpnaedacefaaa", sum := "3d4f6e1e4ff0f0908c4eca7ae390a2113d62739eb7e6e87f2c7213df8a79fd38", func := "ostinato/ostinatolaw8.WireOrder", spec := "wireOrder", inPlace := ["internal/bytealg.IndexByteString"], apart := false }
def WireOrderSaid : Prop := wireOrderRow.holds Try.pinned (OpenSpec.ofChange wireOrderSpec)

/-- ITS FALSE NEIGHBOUR: 'it returns false'. Refute it at one input. -/
def wireOrderWrong : ChangeSpec := { name := "wireOrder", fn := fun _ => fun
  | [d] => { results := [.lit (.bool false)], args := [d] }
  | _ => none }
def WireOrderWrongFalsely : Prop := wireOrderRow.holds Try.pinned (OpenSpec.ofChange wireOrderWrong)

/-- 'ostinatolaw8.WireTurned': WHATEVER THE INPUT: true; the input reads as it did. -/
def wireTurnedSpec : ChangeSpec := { name := "wireTurned", fn := fun _ => fun
  | [d1, d2, d3] => { results := [.lit (.bool true)], args := [d1, d2, d3] }
  | _ => none }
def wireTurnedRow : OpenClaim := { program := "ytpkpnaedacefaaa", sum := "3d4f6e1e4ff0f0908c4eca7ae390a2113d62739eb7e6e87f2c7213df8a79fd38", func := "ostinato/ostinatolaw8.WireTurned", spec := "wireTurned", inPlace := ["internal/bytealg.IndexByteString"], apart := false }
def WireTurnedSaid : Prop := wireTurnedRow.holds Try.pinned (OpenSpec.ofChange wireTurnedSpec)

/-- ITS FALSE NEIGHBOUR: 'it returns false'. Refute it at one input. -/
def wireTurnedWrong : ChangeSpec := { name := "wireTurned", fn := fun _ => fun
  | [d1, d2, d3] => { results := [.lit (.bool false)], args := [d1, d2, d3] }
  | _ => none }
def WireTurnedWrongFalsely : Prop := wireTurnedRow.holds Try.pinned (OpenSpec.ofChange wireTurnedWrong)

/-- 'ostinatolaw8.WireAlone': WHATEVER THE INPUT: true; the input reads as it did. -/
def wireAloneSpec : ChangeSpec := { name := "wireAlone", fn := fun _ => fun
  | [d] => { results := [.lit (.bool true)], args := [d] }
  | _ => none }
def wireAloneRow : OpenClaim := { program := "ytpkpnaedacefaaa", sum := "3d4f6e1e4ff0f0908c4eca7ae390a2113d62739eb7e6e87f2c7213df8a79fd38", func := "ostinato/ostinatolaw8.WireAlone", spec := "wireAlone", inPlace := ["internal/bytealg.IndexByteString"], apart := false }
def WireAloneSaid : Prop := wireAloneRow.holds Try.pinned (OpenSpec.ofChange wireAloneSpec)

/-- ITS FALSE NEIGHBOUR: 'it returns false'. Refute it at one input. -/
def wireAloneWrong : ChangeSpec := { name := "wireAlone", fn := fun _ => fun
  | [d] => { results := [.lit (.bool false)], args := [d] }
  | _ => none }
def WireAloneWrongFalsely : Prop := wireAloneRow.holds Try.pinned (OpenSpec.ofChange wireAloneWrong)

/- THE SECOND FORM. 'bulk': how many values and letters a reading holds, each counted each time it is reached (what is shared counts as often as it is met; a slice's spare places count too). A statement '..UptoSaid' is the law's where the arguments, and the package variables that the reading takes, are together of bulk at most 1048576: NARROWER than '..Said'. Prove '..Said' where nothing that the law and all that it calls make is longer than what came in: it says more and counts as full. Else prove '..UptoSaid'. A law counts once. -/
mutual
def uptoBulk {H : Type} : DataW H → Nat
  | .lit (.string bytes) => bytes.length + 1
  | .lit _ => 1
  | .nil => 1
  | .ptr d => uptoBulk d + 1
  | .slice elems spare => uptoBulkAll elems + uptoBulkAll spare + 1
  | .agg parts => uptoBulkAll parts + 1
  | .iface _ d => uptoBulk d + 1
  | .map entries => uptoBulkEntries entries + 1
  | .held _ => 1
def uptoBulkAll {H : Type} : List (DataW H) → Nat
  | [] => 0
  | d :: r => uptoBulk d + uptoBulkAll r
def uptoBulkEntries {H : Type} : List (Lit × DataW H) → Nat
  | [] => 0
  | x :: r => uptoBulkEntry x + uptoBulkEntries r
def uptoBulkEntry {H : Type} : Lit × DataW H → Nat
  | (.string bytes, d) => bytes.length + uptoBulk d + 1
  | (_, d) => uptoBulk d + 1
 end
def uptoSmall : (H : Type) → List (DataW H) → Bool := fun _ ds => decide (uptoBulkAll ds ≤ 1048576)
def OpenSpec.upto (s : _root_.Go.ChangeSpec) : _root_.Go.OpenSpec := { _root_.Go.OpenSpec.ofChange s with cond := some uptoSmall }

/-- 'ostinatolaw8.WireAll', WHERE WHAT IT READS IS OF BULK AT MOST 1048576: true; the input reads as it did. -/
def wireAllUptoRow : OpenClaim := { program := "ytpkpnaedacefaaa", sum := "3d4f6e1e4ff0f0908c4eca7ae390a2113d62739eb7e6e87f2c7213df8a79fd38", func := "ostinato/ostinatolaw8.WireAll", spec := "wireAll", inPlace := ["internal/bytealg.IndexByteString"], apart := false, narrowed := true }
def WireAllUptoSaid : Prop := wireAllUptoRow.holds Try.pinned (OpenSpec.upto wireAllSpec)

/-- 'ostinatolaw8.WireSame', WHERE WHAT IT READS IS OF BULK AT MOST 1048576: true; the input reads as it did. -/
def wireSameUptoRow : OpenClaim := { program := "ytpkpnaedacefaaa", sum := "3d4f6e1e4ff0f0908c4eca7ae390a2113d62739eb7e6e87f2c7213df8a79fd38", func := "ostinato/ostinatolaw8.WireSame", spec := "wireSame", inPlace := ["internal/bytealg.IndexByteString"], apart := false, narrowed := true }
def WireSameUptoSaid : Prop := wireSameUptoRow.holds Try.pinned (OpenSpec.upto wireSameSpec)

/-- 'ostinatolaw8.WireOrder', WHERE WHAT IT READS IS OF BULK AT MOST 1048576: true; the input reads as it did. -/
def wireOrderUptoRow : OpenClaim := { program := "ytpkpnaedacefaaa", sum := "3d4f6e1e4ff0f0908c4eca7ae390a2113d62739eb7e6e87f2c7213df8a79fd38", func := "ostinato/ostinatolaw8.WireOrder", spec := "wireOrder", inPlace := ["internal/bytealg.IndexByteString"], apart := false, narrowed := true }
def WireOrderUptoSaid : Prop := wireOrderUptoRow.holds Try.pinned (OpenSpec.upto wireOrderSpec)

/-- 'ostinatolaw8.WireTurned', WHERE WHAT IT READS IS OF BULK AT MOST 1048576: true; the input reads as it did. -/
def wireTurnedUptoRow : OpenClaim := { program := "ytpkpnaedacefaaa", sum := "3d4f6e1e4ff0f0908c4eca7ae390a2113d62739eb7e6e87f2c7213df8a79fd38", func := "ostinato/ostinatolaw8.WireTurned", spec := "wireTurned", inPlace := ["internal/bytealg.IndexByteString"], apart := false, narrowed := true }
def WireTurnedUptoSaid : Prop := wireTurnedUptoRow.holds Try.pinned (OpenSpec.upto wireTurnedSpec)

/-- 'ostinatolaw8.WireAlone', WHERE WHAT IT READS IS OF BULK AT MOST 1048576: true; the input reads as it did. -/
def wireAloneUptoRow : OpenClaim := { program := "ytpkpnaedacefaaa", sum := "3d4f6e1e4ff0f0908c4eca7ae390a2113d62739eb7e6e87f2c7213df8a79fd38", func := "ostinato/ostinatolaw8.WireAlone", spec := "wireAlone", inPlace := ["internal/bytealg.IndexByteString"], apart := false, narrowed := true }
def WireAloneUptoSaid : Prop := wireAloneUptoRow.holds Try.pinned (OpenSpec.upto wireAloneSpec)

end Rows
end Go.Proofs.Ytpkpnaedacefaaa
