/-
  No cell of these rows narrows 'for every input' (looked for: loops, veiled, ifaces, maps, wideKeys, modest, calm, conditions, laid).
  DERIVED. THE GIVEN ROWS OF THIS SEAT. 8 by the template 'for every input the law returns true; each argument reads behind the call as it read before'; 0 by the template 'total and deterministic' (their statements: YtdjlbdpajnlonaaTotals.lean).
  GIVEN WITH THE SEED: the statements are not yours to turn. If you find one false, say at which input.
  Laid BY PROGRAM, IN A SANDBOX (cutbox-rows.mjs): the forced cells as the released guide's own fill.sh prints them over the translation cedf953abd1fd42a… (all of the seat's roots in one cut). By AI agents, Wed Nov 11 2026. No macro, syntax, notation, axiom, sorry.
-/
import Derived.Test.YtdjlbdpajnlonaaChecked
import GoSem.Claim
import GoSem.ClaimJoined
import GoSem.ClaimMapViews
import Derived.JoinedTies
import Derived.KernelRfl
namespace Go.Proofs.Ytdjlbdpajnlonaa
/- THE CELL 'sum', in the pinned program and in every row, IS THE sha256 OF THE DUMP (.gsa) THAT YtdjlbdpajnlonaaProg.lean LOADS. Nothing in Lean hashes anything: it is a label: what it is worth is what the hold of that sum in a sandbox is worth. -/
noncomputable def Try.pinned : Pinned := { name := "ytdjlbdpajnlonaa", sum := "cedf953abd1fd42aa8185bd08e13a7e96be12deef469243415629e4720299909", checked := Try.checked }
namespace Rows
def none {H : Type} : Left H := { results := [], args := [] }

/-- 'ostinatolaw3.FrameTells': WHATEVER THE INPUT: true; the input reads as it did. -/
def frameTellsSpec : ChangeSpec := { name := "frameTells", fn := fun _ => fun
  | [d1, d2] => { results := [.lit (.bool true)], args := [d1, d2] }
  | _ => none }
def frameTellsRow : OpenClaim := { program := "ytdjlbdpajnlonaa", sum := "cedf953abd1fd42aa8185bd08e13a7e96be12deef469243415629e4720299909", func := "ostinato/ostinatolaw3.FrameTells", spec := "frameTells", inPlace := ["internal/bytealg.abigen_runtime_cmpstring"], apart := false }
def FrameTellsSaid : Prop := frameTellsRow.holds Try.pinned (OpenSpec.ofChange frameTellsSpec)

/-- ITS FALSE NEIGHBOUR: 'it returns false'. Refute it at one input. -/
def frameTellsWrong : ChangeSpec := { name := "frameTells", fn := fun _ => fun
  | [d1, d2] => { results := [.lit (.bool false)], args := [d1, d2] }
  | _ => none }
def FrameTellsWrongFalsely : Prop := frameTellsRow.holds Try.pinned (OpenSpec.ofChange frameTellsWrong)

/-- 'ostinatolaw3.FrameReads': WHATEVER THE INPUT: true; the input reads as it did. -/
def frameReadsSpec : ChangeSpec := { name := "frameReads", fn := fun _ => fun
  | [d] => { results := [.lit (.bool true)], args := [d] }
  | _ => none }
def frameReadsRow : OpenClaim := { program := "ytdjlbdpajnlonaa", sum := "cedf953abd1fd42aa8185bd08e13a7e96be12deef469243415629e4720299909", func := "ostinato/ostinatolaw3.FrameReads", spec := "frameReads", inPlace := ["internal/bytealg.abigen_runtime_cmpstring"], apart := false }
def FrameReadsSaid : Prop := frameReadsRow.holds Try.pinned (OpenSpec.ofChange frameReadsSpec)

/-- ITS FALSE NEIGHBOUR: 'it returns false'. Refute it at one input. -/
def frameReadsWrong : ChangeSpec := { name := "frameReads", fn := fun _ => fun
  | [d] => { results := [.lit (.bool false)], args := [d] }
  | _ => none }
def FrameReadsWrongFalsely : Prop := frameReadsRow.holds Try.pinned (OpenSpec.ofChange frameReadsWrong)

/-- 'ostinatolaw3.FrameBack': WHATEVER THE INPUT: true; the input reads as it did. -/
def frameBackSpec : ChangeSpec := { name := "frameBack", fn := fun _ => fun
  | [d1, d2, d3] => { results := [.lit (.bool true)], args := [d1, d2, d3] }
  | _ => none }
def frameBackRow : OpenClaim := { program := "ytdjlbdpajnlonaa", sum := "cedf953abd1fd42aa8185bd08e13a7e96be12deef469243415629e4720299909", func := "ostinato/ostinatolaw3.FrameBack", spec := "frameBack", inPlace := ["internal/bytealg.abigen_runtime_cmpstring"], apart := false }
def FrameBackSaid : Prop := frameBackRow.holds Try.pinned (OpenSpec.ofChange frameBackSpec)

/-- ITS FALSE NEIGHBOUR: 'it returns false'. Refute it at one input. -/
def frameBackWrong : ChangeSpec := { name := "frameBack", fn := fun _ => fun
  | [d1, d2, d3] => { results := [.lit (.bool false)], args := [d1, d2, d3] }
  | _ => none }
def FrameBackWrongFalsely : Prop := frameBackRow.holds Try.pinned (OpenSpec.ofChange frameBackWrong)

/-- 'ostinatolaw3.FrameOrder': WHATEVER THE INPUT: true; the input reads as it did. -/
def frameOrderSpec : ChangeSpec := { name := "frameOrder", fn := fun _ => fun
  | [d1, d2, d3] => { results := [.lit (.bool true)], args := [d1, d2, d3] }
  | _ => none }
def frameOrderRow : OpenClaim := { program := "ytdjlbdpajnlonaa", sum := "cedf953abd1fd42aa8185bd08e13a7e96be12deef469243415629e4720299909", func := "ostinato/ostinatolaw3.FrameOrder", spec := "frameOrder", inPlace := ["internal/bytealg.abigen_runtime_cmpstring"], apart := false }
def FrameOrderSaid : Prop := frameOrderRow.holds Try.pinned (OpenSpec.ofChange frameOrderSpec)

/-- ITS FALSE NEIGHBOUR: 'it returns false'. Refute it at one input. -/
def frameOrderWrong : ChangeSpec := { name := "frameOrder", fn := fun _ => fun
  | [d1, d2, d3] => { results := [.lit (.bool false)], args := [d1, d2, d3] }
  | _ => none }
def FrameOrderWrongFalsely : Prop := frameOrderRow.holds Try.pinned (OpenSpec.ofChange frameOrderWrong)

/-- 'ostinatolaw3.FrameWins': WHATEVER THE INPUT: true; the input reads as it did. -/
def frameWinsSpec : ChangeSpec := { name := "frameWins", fn := fun _ => fun
  | [d1, d2] => { results := [.lit (.bool true)], args := [d1, d2] }
  | _ => none }
def frameWinsRow : OpenClaim := { program := "ytdjlbdpajnlonaa", sum := "cedf953abd1fd42aa8185bd08e13a7e96be12deef469243415629e4720299909", func := "ostinato/ostinatolaw3.FrameWins", spec := "frameWins", inPlace := ["internal/bytealg.abigen_runtime_cmpstring"], apart := false }
def FrameWinsSaid : Prop := frameWinsRow.holds Try.pinned (OpenSpec.ofChange frameWinsSpec)

/-- ITS FALSE NEIGHBOUR: 'it returns false'. Refute it at one input. -/
def frameWinsWrong : ChangeSpec := { name := "frameWins", fn := fun _ => fun
  | [d1, d2] => { results := [.lit (.bool false)], args := [d1, d2] }
  | _ => none }
def FrameWinsWrongFalsely : Prop := frameWinsRow.holds Try.pinned (OpenSpec.ofChange frameWinsWrong)

/-- 'ostinatolaw3.FrameFields': WHATEVER THE INPUT: true; the input reads as it did. -/
def frameFieldsSpec : ChangeSpec := { name := "frameFields", fn := fun _ => fun
  | [d1, d2, d3] => { results := [.lit (.bool true)], args := [d1, d2, d3] }
  | _ => none }
def frameFieldsRow : OpenClaim := { program := "ytdjlbdpajnlonaa", sum := "cedf953abd1fd42aa8185bd08e13a7e96be12deef469243415629e4720299909", func := "ostinato/ostinatolaw3.FrameFields", spec := "frameFields", inPlace := ["internal/bytealg.abigen_runtime_cmpstring"], apart := false }
def FrameFieldsSaid : Prop := frameFieldsRow.holds Try.pinned (OpenSpec.ofChange frameFieldsSpec)

/-- ITS FALSE NEIGHBOUR: 'it returns false'. Refute it at one input. -/
def frameFieldsWrong : ChangeSpec := { name := "frameFields", fn := fun _ => fun
  | [d1, d2, d3] => { results := [.lit (.bool false)], args := [d1, d2, d3] }
  | _ => none }
def FrameFieldsWrongFalsely : Prop := frameFieldsRow.holds Try.pinned (OpenSpec.ofChange frameFieldsWrong)

/-- 'ostinatolaw3.FrameLess': WHATEVER THE INPUT: true; the input reads as it did. -/
def frameLessSpec : ChangeSpec := { name := "frameLess", fn := fun _ => fun
  | [d1, d2, d3] => { results := [.lit (.bool true)], args := [d1, d2, d3] }
  | _ => none }
def frameLessRow : OpenClaim := { program := "ytdjlbdpajnlonaa", sum := "cedf953abd1fd42aa8185bd08e13a7e96be12deef469243415629e4720299909", func := "ostinato/ostinatolaw3.FrameLess", spec := "frameLess", inPlace := ["internal/bytealg.abigen_runtime_cmpstring"], apart := false }
def FrameLessSaid : Prop := frameLessRow.holds Try.pinned (OpenSpec.ofChange frameLessSpec)

/-- ITS FALSE NEIGHBOUR: 'it returns false'. Refute it at one input. -/
def frameLessWrong : ChangeSpec := { name := "frameLess", fn := fun _ => fun
  | [d1, d2, d3] => { results := [.lit (.bool false)], args := [d1, d2, d3] }
  | _ => none }
def FrameLessWrongFalsely : Prop := frameLessRow.holds Try.pinned (OpenSpec.ofChange frameLessWrong)

/-- 'ostinatolaw3.FrameTexts': WHATEVER THE INPUT: true; the input reads as it did. -/
def frameTextsSpec : ChangeSpec := { name := "frameTexts", fn := fun _ => fun
  | [d1, d2] => { results := [.lit (.bool true)], args := [d1, d2] }
  | _ => none }
def frameTextsRow : OpenClaim := { program := "ytdjlbdpajnlonaa", sum := "cedf953abd1fd42aa8185bd08e13a7e96be12deef469243415629e4720299909", func := "ostinato/ostinatolaw3.FrameTexts", spec := "frameTexts", inPlace := ["internal/bytealg.abigen_runtime_cmpstring"], apart := false }
def FrameTextsSaid : Prop := frameTextsRow.holds Try.pinned (OpenSpec.ofChange frameTextsSpec)

/-- ITS FALSE NEIGHBOUR: 'it returns false'. Refute it at one input. -/
def frameTextsWrong : ChangeSpec := { name := "frameTexts", fn := fun _ => fun
  | [d1, d2] => { results := [.lit (.bool false)], args := [d1, d2] }
  | _ => none }
def FrameTextsWrongFalsely : Prop := frameTextsRow.holds Try.pinned (OpenSpec.ofChange frameTextsWrong)

/- THE SECOND FORM. 'bulk': how many values and letters a reading holds, each counted each time it is reached (what is shared counts as often as it is met; a slice's spare places count too). A statement '..UptoSaid' is the law's where the arguments, and the package variables that the reading takes, are together of bulk at most 1048576: NARROWER than '..Said'. Prove '..Said' where nothing that the law and all that it calls make is longer than what came in: it says more and counts as full. Else prove '..UptoSaid'. A law counts once. -/
mutual
def uptoBulk {H : Type} : DataW H → Nat
  | .lit (.string bytes) => bytes.length + 1
  | .lit _ => 1
  | .nil => 1
  | .ptr d => uptoBulk d + 1
  | .slice elems spare => uptoBulkAll elems + uptoBulkAll spare + 1
  | .agg parts => uptoBulkAll parts + 1
  | .iface _ d => uptoBulk d + 1
  | .map entries => uptoBulkEntries entries + 1
  | .held _ => 1
def uptoBulkAll {H : Type} : List (DataW H) → Nat
  | [] => 0
  | d :: r => uptoBulk d + uptoBulkAll r
def uptoBulkEntries {H : Type} : List (Lit × DataW H) → Nat
  | [] => 0
  | x :: r => uptoBulkEntry x + uptoBulkEntries r
def uptoBulkEntry {H : Type} : Lit × DataW H → Nat
  | (.string bytes, d) => bytes.length + uptoBulk d + 1
  | (_, d) => uptoBulk d + 1
 end
def uptoSmall : (H : Type) → List (DataW H) → Bool := fun _ ds => decide (uptoBulkAll ds ≤ 1048576)
def OpenSpec.upto (s : _root_.Go.ChangeSpec) : _root_.Go.OpenSpec := { _root_.Go.OpenSpec.ofChange s with cond := some uptoSmall }

/-- 'ostinatolaw3.FrameTells', WHERE WHAT IT READS IS OF BULK AT MOST 1048576: true; the input reads as it did. -/
def frameTellsUptoRow : OpenClaim := { program := "ytdjlbdpajnlonaa", sum := "cedf953abd1fd42aa8185bd08e13a7e96be12deef469243415629e4720299909", func := "ostinato/ostinatolaw3.FrameTells", spec := "frameTells", inPlace := ["internal/bytealg.abigen_runtime_cmpstring"], apart := false, narrowed := true }
def FrameTellsUptoSaid : Prop := frameTellsUptoRow.holds Try.pinned (OpenSpec.upto frameTellsSpec)

/-- 'ostinatolaw3.FrameReads', WHERE WHAT IT READS IS OF BULK AT MOST 1048576: true; the input reads as it did. -/
def frameReadsUptoRow : OpenClaim := { program := "ytdjlbdpajnlonaa", sum := "cedf953abd1fd42aa8185bd08e13a7e96be12deef469243415629e4720299909", func := "ostinato/ostinatolaw3.FrameReads", spec := "frameReads", inPlace := ["internal/bytealg.abigen_runtime_cmpstring"], apart := false, narrowed := true }
def FrameReadsUptoSaid : Prop := frameReadsUptoRow.holds Try.pinned (OpenSpec.upto frameReadsSpec)

/-- 'ostinatolaw3.FrameBack', WHERE WHAT IT READS IS OF BULK AT MOST 1048576: true; the input reads as it did. -/
def frameBackUptoRow : OpenClaim := { program := "ytdjlbdpajnlonaa", sum := "cedf953abd1fd42aa8185bd08e13a7e96be12deef469243415629e4720299909", func := "ostinato/ostinatolaw3.FrameBack", spec := "frameBack", inPlace := ["internal/bytealg.abigen_runtime_cmpstring"], apart := false, narrowed := true }
def FrameBackUptoSaid : Prop := frameBackUptoRow.holds Try.pinned (OpenSpec.upto frameBackSpec)

/-- 'ostinatolaw3.FrameOrder', WHERE WHAT IT READS IS OF BULK AT MOST 1048576: true; the input reads as it did. -/
def frameOrderUptoRow : OpenClaim := { program := "ytdjlbdpajnlonaa", sum := "cedf953abd1fd42aa8185bd08e13a7e96be12deef469243415629e4720299909", func := "ostinato/ostinatolaw3.FrameOrder", spec := "frameOrder", inPlace := ["internal/bytealg.abigen_runtime_cmpstring"], apart := false, narrowed := true }
def FrameOrderUptoSaid : Prop := frameOrderUptoRow.holds Try.pinned (OpenSpec.upto frameOrderSpec)

/-- 'ostinatolaw3.FrameWins', WHERE WHAT IT READS IS OF BULK AT MOST 1048576: true; the input reads as it did. -/
def frameWinsUptoRow : OpenClaim := { program := "ytdjlbdpajnlonaa", sum := "cedf953abd1fd42aa8185bd08e13a7e96be12deef469243415629e4720299909", func := "ostinato/ostinatolaw3.FrameWins", spec := "frameWins", inPlace := ["internal/bytealg.abigen_runtime_cmpstring"], apart := false, narrowed := true }
def FrameWinsUptoSaid : Prop := frameWinsUptoRow.holds Try.pinned (OpenSpec.upto frameWinsSpec)

/-- 'ostinatolaw3.FrameFields', WHERE WHAT IT READS IS OF BULK AT MOST 1048576: true; the input reads as it did. -/
def frameFieldsUptoRow : OpenClaim := { program := "ytdjlbdpajnlonaa", sum := "cedf953abd1fd42aa8185bd08e13a7e96be12deef469243415629e4720299909", func := "ostinato/ostinatolaw3.FrameFields", spec := "frameFields", inPlace := ["internal/bytealg.abigen_runtime_cmpstring"], apart := false, narrowed := true }
def FrameFieldsUptoSaid : Prop := frameFieldsUptoRow.holds Try.pinned (OpenSpec.upto frameFieldsSpec)

/-- 'ostinatolaw3.FrameLess', WHERE WHAT IT READS IS OF BULK AT MOST 1048576: true; the input reads as it did. -/
def frameLessUptoRow : OpenClaim := { program := "ytdjlbdpajnlonaa", sum := "cedf953abd1fd42aa8185bd08e13a7e96be12deef469243415629e4720299909", func := "ostinato/ostinatolaw3.FrameLess", spec := "frameLess", inPlace := ["internal/bytealg.abigen_runtime_cmpstring"], apart := false, narrowed := true }
def FrameLessUptoSaid : Prop := frameLessUptoRow.holds Try.pinned (OpenSpec.upto frameLessSpec)

/-- 'ostinatolaw3.FrameTexts', WHERE WHAT IT READS IS OF BULK AT MOST 1048576: true; the input reads as it did. -/
def frameTextsUptoRow : OpenClaim := { program := "ytdjlbdpajnlonaa", sum := "cedf953abd1fd42aa8185bd08e13a7e96be12deef469243415629e4720299909", func := "ostinato/ostinatolaw3.FrameTexts", spec := "frameTexts", inPlace := ["internal/bytealg.abigen_runtime_cmpstring"], apart := false, narrowed := true }
def FrameTextsUptoSaid : Prop := frameTextsUptoRow.holds Try.pinned (OpenSpec.upto frameTextsSpec)

end Rows
end Go.Proofs.Ytdjlbdpajnlonaa
