/-
  No cell of these rows narrows 'for every input' (looked for: loops, veiled, ifaces, maps, wideKeys, modest, calm, conditions, laid).
  DERIVED. THE GIVEN ROWS OF THIS SEAT. 8 by the template 'for every input the law returns true; each argument reads behind the call as it read before'; 0 by the template 'total and deterministic' (their statements: YtpmbapefchffjaaTotals.lean).
  GIVEN WITH THE SEED: the statements are not yours to turn. If you find one false, say at which input.
  Laid BY PROGRAM, IN A SANDBOX (cutbox-rows.mjs): the forced cells as the released guide's own fill.sh prints them over the translation 493a653210d0a924… (all of the seat's roots in one cut). By AI agents, Wed Nov 11 2026. No macro, syntax, notation, axiom, sorry.
-/
import Derived.Test.YtpmbapefchffjaaChecked
import GoSem.Claim
import GoSem.ClaimJoined
import GoSem.ClaimMapViews
import Derived.JoinedTies
import Derived.KernelRfl
namespace Go.Proofs.Ytpmbapefchffjaa
/- THE CELL 'sum', in the pinned program and in every row, IS THE sha256 OF THE DUMP (.gsa) THAT YtpmbapefchffjaaProg.lean LOADS. Nothing in Lean hashes anything: it is a label: what it is worth is what the hold of that sum in a sandbox is worth. -/
noncomputable def Try.pinned : Pinned := { name := "ytpmbapefchffjaa", sum := "493a653210d0a92401b425931b56fbe958f13e6c82999ab4e1af5491f00995e5", checked := Try.checked }
namespace Rows
def none {H : Type} : Left H := { results := [], args := [] }

/-- 'ostinatolaw1.BitsTell': WHATEVER THE INPUT: true; the input reads as it did. -/
def bitsTellSpec : ChangeSpec := { name := "bitsTell", fn := fun _ => fun
  | [d1, d2, d3, d4, d5] => { results := [.lit (.bool true)], args := [d1, d2, d3, d4, d5] }
  | _ => none }
def bitsTellRow : OpenClaim := { program := "ytpmbapefchffjaa", sum := "493a653210d0a92401b425931b56fbe958f13e6c82999ab4e1af5491f00995e5", func := "ostinato/ostinatolaw1.BitsTell", spec := "bitsTell", apart := false }
def BitsTellSaid : Prop := bitsTellRow.holds Try.pinned (OpenSpec.ofChange bitsTellSpec)

/-- ITS FALSE NEIGHBOUR: 'it returns false'. Refute it at one input. -/
def bitsTellWrong : ChangeSpec := { name := "bitsTell", fn := fun _ => fun
  | [d1, d2, d3, d4, d5] => { results := [.lit (.bool false)], args := [d1, d2, d3, d4, d5] }
  | _ => none }
def BitsTellWrongFalsely : Prop := bitsTellRow.holds Try.pinned (OpenSpec.ofChange bitsTellWrong)

/-- 'ostinatolaw1.BitsSums': WHATEVER THE INPUT: true; the input reads as it did. -/
def bitsSumsSpec : ChangeSpec := { name := "bitsSums", fn := fun _ => fun
  | [d] => { results := [.lit (.bool true)], args := [d] }
  | _ => none }
def bitsSumsRow : OpenClaim := { program := "ytpmbapefchffjaa", sum := "493a653210d0a92401b425931b56fbe958f13e6c82999ab4e1af5491f00995e5", func := "ostinato/ostinatolaw1.BitsSums", spec := "bitsSums", apart := false }
def BitsSumsSaid : Prop := bitsSumsRow.holds Try.pinned (OpenSpec.ofChange bitsSumsSpec)

/-- ITS FALSE NEIGHBOUR: 'it returns false'. Refute it at one input. -/
def bitsSumsWrong : ChangeSpec := { name := "bitsSums", fn := fun _ => fun
  | [d] => { results := [.lit (.bool false)], args := [d] }
  | _ => none }
def BitsSumsWrongFalsely : Prop := bitsSumsRow.holds Try.pinned (OpenSpec.ofChange bitsSumsWrong)

/-- 'ostinatolaw1.BitsNothing': WHATEVER THE INPUT: true; the input reads as it did. -/
def bitsNothingSpec : ChangeSpec := { name := "bitsNothing", fn := fun _ => fun
  | [d1, d2, d3, d4] => { results := [.lit (.bool true)], args := [d1, d2, d3, d4] }
  | _ => none }
def bitsNothingRow : OpenClaim := { program := "ytpmbapefchffjaa", sum := "493a653210d0a92401b425931b56fbe958f13e6c82999ab4e1af5491f00995e5", func := "ostinato/ostinatolaw1.BitsNothing", spec := "bitsNothing", apart := false }
def BitsNothingSaid : Prop := bitsNothingRow.holds Try.pinned (OpenSpec.ofChange bitsNothingSpec)

/-- ITS FALSE NEIGHBOUR: 'it returns false'. Refute it at one input. -/
def bitsNothingWrong : ChangeSpec := { name := "bitsNothing", fn := fun _ => fun
  | [d1, d2, d3, d4] => { results := [.lit (.bool false)], args := [d1, d2, d3, d4] }
  | _ => none }
def BitsNothingWrongFalsely : Prop := bitsNothingRow.holds Try.pinned (OpenSpec.ofChange bitsNothingWrong)

/-- 'ostinatolaw1.BitsLinear': WHATEVER THE INPUT: true; the input reads as it did. -/
def bitsLinearSpec : ChangeSpec := { name := "bitsLinear", fn := fun _ => fun
  | [d1, d2, d3] => { results := [.lit (.bool true)], args := [d1, d2, d3] }
  | _ => none }
def bitsLinearRow : OpenClaim := { program := "ytpmbapefchffjaa", sum := "493a653210d0a92401b425931b56fbe958f13e6c82999ab4e1af5491f00995e5", func := "ostinato/ostinatolaw1.BitsLinear", spec := "bitsLinear", apart := false }
def BitsLinearSaid : Prop := bitsLinearRow.holds Try.pinned (OpenSpec.ofChange bitsLinearSpec)

/-- ITS FALSE NEIGHBOUR: 'it returns false'. Refute it at one input. -/
def bitsLinearWrong : ChangeSpec := { name := "bitsLinear", fn := fun _ => fun
  | [d1, d2, d3] => { results := [.lit (.bool false)], args := [d1, d2, d3] }
  | _ => none }
def BitsLinearWrongFalsely : Prop := bitsLinearRow.holds Try.pinned (OpenSpec.ofChange bitsLinearWrong)

/-- 'ostinatolaw1.BitsBack': WHATEVER THE INPUT: true; the input reads as it did. -/
def bitsBackSpec : ChangeSpec := { name := "bitsBack", fn := fun _ => fun
  | [d1, d2, d3] => { results := [.lit (.bool true)], args := [d1, d2, d3] }
  | _ => none }
def bitsBackRow : OpenClaim := { program := "ytpmbapefchffjaa", sum := "493a653210d0a92401b425931b56fbe958f13e6c82999ab4e1af5491f00995e5", func := "ostinato/ostinatolaw1.BitsBack", spec := "bitsBack", apart := false }
def BitsBackSaid : Prop := bitsBackRow.holds Try.pinned (OpenSpec.ofChange bitsBackSpec)

/-- ITS FALSE NEIGHBOUR: 'it returns false'. Refute it at one input. -/
def bitsBackWrong : ChangeSpec := { name := "bitsBack", fn := fun _ => fun
  | [d1, d2, d3] => { results := [.lit (.bool false)], args := [d1, d2, d3] }
  | _ => none }
def BitsBackWrongFalsely : Prop := bitsBackRow.holds Try.pinned (OpenSpec.ofChange bitsBackWrong)

/-- 'ostinatolaw1.BitsOne': WHATEVER THE INPUT: true; the input reads as it did. -/
def bitsOneSpec : ChangeSpec := { name := "bitsOne", fn := fun _ => fun
  | [d1, d2, d3, d4] => { results := [.lit (.bool true)], args := [d1, d2, d3, d4] }
  | _ => none }
def bitsOneRow : OpenClaim := { program := "ytpmbapefchffjaa", sum := "493a653210d0a92401b425931b56fbe958f13e6c82999ab4e1af5491f00995e5", func := "ostinato/ostinatolaw1.BitsOne", spec := "bitsOne", apart := false }
def BitsOneSaid : Prop := bitsOneRow.holds Try.pinned (OpenSpec.ofChange bitsOneSpec)

/-- ITS FALSE NEIGHBOUR: 'it returns false'. Refute it at one input. -/
def bitsOneWrong : ChangeSpec := { name := "bitsOne", fn := fun _ => fun
  | [d1, d2, d3, d4] => { results := [.lit (.bool false)], args := [d1, d2, d3, d4] }
  | _ => none }
def BitsOneWrongFalsely : Prop := bitsOneRow.holds Try.pinned (OpenSpec.ofChange bitsOneWrong)

/-- 'ostinatolaw1.BitsSplit': WHATEVER THE INPUT: true; the input reads as it did. -/
def bitsSplitSpec : ChangeSpec := { name := "bitsSplit", fn := fun _ => fun
  | [d1, d2] => { results := [.lit (.bool true)], args := [d1, d2] }
  | _ => none }
def bitsSplitRow : OpenClaim := { program := "ytpmbapefchffjaa", sum := "493a653210d0a92401b425931b56fbe958f13e6c82999ab4e1af5491f00995e5", func := "ostinato/ostinatolaw1.BitsSplit", spec := "bitsSplit", apart := false }
def BitsSplitSaid : Prop := bitsSplitRow.holds Try.pinned (OpenSpec.ofChange bitsSplitSpec)

/-- ITS FALSE NEIGHBOUR: 'it returns false'. Refute it at one input. -/
def bitsSplitWrong : ChangeSpec := { name := "bitsSplit", fn := fun _ => fun
  | [d1, d2] => { results := [.lit (.bool false)], args := [d1, d2] }
  | _ => none }
def BitsSplitWrongFalsely : Prop := bitsSplitRow.holds Try.pinned (OpenSpec.ofChange bitsSplitWrong)

/-- 'ostinatolaw1.BitsAll': WHATEVER THE INPUT: true; the input reads as it did. -/
def bitsAllSpec : ChangeSpec := { name := "bitsAll", fn := fun _ => fun
  | [d1, d2] => { results := [.lit (.bool true)], args := [d1, d2] }
  | _ => none }
def bitsAllRow : OpenClaim := { program := "ytpmbapefchffjaa", sum := "493a653210d0a92401b425931b56fbe958f13e6c82999ab4e1af5491f00995e5", func := "ostinato/ostinatolaw1.BitsAll", spec := "bitsAll", apart := false }
def BitsAllSaid : Prop := bitsAllRow.holds Try.pinned (OpenSpec.ofChange bitsAllSpec)

/-- ITS FALSE NEIGHBOUR: 'it returns false'. Refute it at one input. -/
def bitsAllWrong : ChangeSpec := { name := "bitsAll", fn := fun _ => fun
  | [d1, d2] => { results := [.lit (.bool false)], args := [d1, d2] }
  | _ => none }
def BitsAllWrongFalsely : Prop := bitsAllRow.holds Try.pinned (OpenSpec.ofChange bitsAllWrong)

/- THE SECOND FORM. 'bulk': how many values and letters a reading holds, each counted each time it is reached (what is shared counts as often as it is met; a slice's spare places count too). A statement '..UptoSaid' is the law's where the arguments, and the package variables that the reading takes, are together of bulk at most 1048576: NARROWER than '..Said'. Prove '..Said' where nothing that the law and all that it calls make is longer than what came in: it says more and counts as full. Else prove '..UptoSaid'. A law counts once. -/
mutual
def uptoBulk {H : Type} : DataW H → Nat
  | .lit (.string bytes) => bytes.length + 1
  | .lit _ => 1
  | .nil => 1
  | .ptr d => uptoBulk d + 1
  | .slice elems spare => uptoBulkAll elems + uptoBulkAll spare + 1
  | .agg parts => uptoBulkAll parts + 1
  | .iface _ d => uptoBulk d + 1
  | .map entries => uptoBulkEntries entries + 1
  | .held _ => 1
def uptoBulkAll {H : Type} : List (DataW H) → Nat
  | [] => 0
  | d :: r => uptoBulk d + uptoBulkAll r
def uptoBulkEntries {H : Type} : List (Lit × DataW H) → Nat
  | [] => 0
  | x :: r => uptoBulkEntry x + uptoBulkEntries r
def uptoBulkEntry {H : Type} : Lit × DataW H → Nat
  | (.string bytes, d) => bytes.length + uptoBulk d + 1
  | (_, d) => uptoBulk d + 1
 end
def uptoSmall : (H : Type) → List (DataW H) → Bool := fun _ ds => decide (uptoBulkAll ds ≤ 1048576)
def OpenSpec.upto (s : _root_.Go.ChangeSpec) : _root_.Go.OpenSpec := { _root_.Go.OpenSpec.ofChange s with cond := some uptoSmall }

/-- 'ostinatolaw1.BitsTell', WHERE WHAT IT READS IS OF BULK AT MOST 1048576: true; the input reads as it did. -/
def bitsTellUptoRow : OpenClaim := { program := "ytpmbapefchffjaa", sum := "493a653210d0a92401b425931b56fbe958f13e6c82999ab4e1af5491f00995e5", func := "ostinato/ostinatolaw1.BitsTell", spec := "bitsTell", apart := false, narrowed := true }
def BitsTellUptoSaid : Prop := bitsTellUptoRow.holds Try.pinned (OpenSpec.upto bitsTellSpec)

/-- 'ostinatolaw1.BitsSums', WHERE WHAT IT READS IS OF BULK AT MOST 1048576: true; the input reads as it did. -/
def bitsSumsUptoRow : OpenClaim := { program := "ytpmbapefchffjaa", sum := "493a653210d0a92401b425931b56fbe958f13e6c82999ab4e1af5491f00995e5", func := "ostinato/ostinatolaw1.BitsSums", spec := "bitsSums", apart := false, narrowed := true }
def BitsSumsUptoSaid : Prop := bitsSumsUptoRow.holds Try.pinned (OpenSpec.upto bitsSumsSpec)

/-- 'ostinatolaw1.BitsNothing', WHERE WHAT IT READS IS OF BULK AT MOST 1048576: true; the input reads as it did. -/
def bitsNothingUptoRow : OpenClaim := { program := "ytpmbapefchffjaa", sum := "493a653210d0a92401b425931b56fbe958f13e6c82999ab4e1af5491f00995e5", func := "ostinato/ostinatolaw1.BitsNothing", spec := "bitsNothing", apart := false, narrowed := true }
def BitsNothingUptoSaid : Prop := bitsNothingUptoRow.holds Try.pinned (OpenSpec.upto bitsNothingSpec)

/-- 'ostinatolaw1.BitsLinear', WHERE WHAT IT READS IS OF BULK AT MOST 1048576: true; the input reads as it did. -/
def bitsLinearUptoRow : OpenClaim := { program := "ytpmbapefchffjaa", sum := "493a653210d0a92401b425931b56fbe958f13e6c82999ab4e1af5491f00995e5", func := "ostinato/ostinatolaw1.BitsLinear", spec := "bitsLinear", apart := false, narrowed := true }
def BitsLinearUptoSaid : Prop := bitsLinearUptoRow.holds Try.pinned (OpenSpec.upto bitsLinearSpec)

/-- 'ostinatolaw1.BitsBack', WHERE WHAT IT READS IS OF BULK AT MOST 1048576: true; the input reads as it did. -/
def bitsBackUptoRow : OpenClaim := { program := "ytpmbapefchffjaa", sum := "493a653210d0a92401b425931b56fbe958f13e6c82999ab4e1af5491f00995e5", func := "ostinato/ostinatolaw1.BitsBack", spec := "bitsBack", apart := false, narrowed := true }
def BitsBackUptoSaid : Prop := bitsBackUptoRow.holds Try.pinned (OpenSpec.upto bitsBackSpec)

/-- 'ostinatolaw1.BitsOne', WHERE WHAT IT READS IS OF BULK AT MOST 1048576: true; the input reads as it did. -/
def bitsOneUptoRow : OpenClaim := { program := "ytpmbapefchffjaa", sum := "493a653210d0a92401b425931b56fbe958f13e6c82999ab4e1af5491f00995e5", func := "ostinato/ostinatolaw1.BitsOne", spec := "bitsOne", apart := false, narrowed := true }
def BitsOneUptoSaid : Prop := bitsOneUptoRow.holds Try.pinned (OpenSpec.upto bitsOneSpec)

/-- 'ostinatolaw1.BitsSplit', WHERE WHAT IT READS IS OF BULK AT MOST 1048576: true; the input reads as it did. -/
def bitsSplitUptoRow : OpenClaim := { program := "ytpmbapefchffjaa", sum := "493a653210d0a92401b425931b56fbe958f13e6c82999ab4e1af5491f00995e5", func := "ostinato/ostinatolaw1.BitsSplit", spec := "bitsSplit", apart := false, narrowed := true }
def BitsSplitUptoSaid : Prop := bitsSplitUptoRow.holds Try.pinned (OpenSpec.upto bitsSplitSpec)

/-- 'ostinatolaw1.BitsAll', WHERE WHAT IT READS IS OF BULK AT MOST 1048576: true; the input reads as it did. -/
def bitsAllUptoRow : OpenClaim := { program := "ytpmbapefchffjaa", sum := "493a653210d0a92401b425931b56fbe958f13e6c82999ab4e1af5491f00995e5", func := "ostinato/ostinatolaw1.BitsAll", spec := "bitsAll", apart := false, narrowed := true }
def BitsAllUptoSaid : Prop := bitsAllUptoRow.holds Try.pinned (OpenSpec.upto bitsAllSpec)

end Rows
end Go.Proofs.Ytpmbapefchffjaa
