/-
  No cell of these rows narrows 'for every input' (looked for: loops, veiled, ifaces, maps, wideKeys, modest, calm, conditions, laid).
  DERIVED. THE GIVEN ROWS OF THIS SEAT. 10 by the template 'for every input the law returns true; each argument reads behind the call as it read before'; 0 by the template 'total and deterministic' (their statements: YtkdnldoebghclaaTotals.lean).
  GIVEN WITH THE SEED: the statements are not yours to turn. If you find one false, say at which input.
  Laid BY PROGRAM, IN A SANDBOX (cutbox-rows.mjs): the forced cells as the released guide's own fill.sh prints them over the translation 3ab686fc6aab0a06… (all of the seat's roots in one cut). By AI agents, Wed Nov 11 2026. No macro, syntax, notation, axiom, sorry.
-/
import Derived.Test.YtkdnldoebghclaaChecked
import GoSem.Claim
import GoSem.ClaimJoined
import GoSem.ClaimMapViews
import Derived.JoinedTies
import Derived.KernelRfl
namespace Go.Proofs.Ytkdnldoebghclaa
/- THE CELL 'sum', in the pinned program and in every row, IS THE sha256 OF THE DUMP (.gsa) THAT YtkdnldoebghclaaProg.lean LOADS. Nothing in Lean hashes anything: it is a label: what it is worth is what the hold of that sum in a sandbox is worth. -/
noncomputable def Try.pinned : Pinned := { name := "ytkdnldoebghclaa", sum := "3ab686fc6aab0a06f4f1dc16ee7da8a558413644ce55fed835805d3334cede7e", checked := Try.checked }
namespace Rows
def none {H : Type} : Left H := { results := [], args := [] }

/-- 'ostinatolaw4.CodeWrites': WHATEVER THE INPUT: true; the input reads as it did. -/
def codeWritesSpec : ChangeSpec := { name := "codeWrites", fn := fun _ => fun
  | [d] => { results := [.lit (.bool true)], args := [d] }
  | _ => none }
def codeWritesRow : OpenClaim := { program := "ytkdnldoebghclaa", sum := "3ab686fc6aab0a06f4f1dc16ee7da8a558413644ce55fed835805d3334cede7e", func := "ostinato/ostinatolaw4.CodeWrites", spec := "codeWrites", apart := false }
def CodeWritesSaid : Prop := codeWritesRow.holds Try.pinned (OpenSpec.ofChange codeWritesSpec)

/-- ITS FALSE NEIGHBOUR: 'it returns false'. Refute it at one input. -/
def codeWritesWrong : ChangeSpec := { name := "codeWrites", fn := fun _ => fun
  | [d] => { results := [.lit (.bool false)], args := [d] }
  | _ => none }
def CodeWritesWrongFalsely : Prop := codeWritesRow.holds Try.pinned (OpenSpec.ofChange codeWritesWrong)

/-- 'ostinatolaw4.CodeReads': WHATEVER THE INPUT: true; the input reads as it did. -/
def codeReadsSpec : ChangeSpec := { name := "codeReads", fn := fun _ => fun
  | [d] => { results := [.lit (.bool true)], args := [d] }
  | _ => none }
def codeReadsRow : OpenClaim := { program := "ytkdnldoebghclaa", sum := "3ab686fc6aab0a06f4f1dc16ee7da8a558413644ce55fed835805d3334cede7e", func := "ostinato/ostinatolaw4.CodeReads", spec := "codeReads", apart := false }
def CodeReadsSaid : Prop := codeReadsRow.holds Try.pinned (OpenSpec.ofChange codeReadsSpec)

/-- ITS FALSE NEIGHBOUR: 'it returns false'. Refute it at one input. -/
def codeReadsWrong : ChangeSpec := { name := "codeReads", fn := fun _ => fun
  | [d] => { results := [.lit (.bool false)], args := [d] }
  | _ => none }
def CodeReadsWrongFalsely : Prop := codeReadsRow.holds Try.pinned (OpenSpec.ofChange codeReadsWrong)

/-- 'ostinatolaw4.CodeTurned': WHATEVER THE INPUT: true; the input reads as it did. -/
def codeTurnedSpec : ChangeSpec := { name := "codeTurned", fn := fun _ => fun
  | [d1, d2, d3] => { results := [.lit (.bool true)], args := [d1, d2, d3] }
  | _ => none }
def codeTurnedRow : OpenClaim := { program := "ytkdnldoebghclaa", sum := "3ab686fc6aab0a06f4f1dc16ee7da8a558413644ce55fed835805d3334cede7e", func := "ostinato/ostinatolaw4.CodeTurned", spec := "codeTurned", apart := false }
def CodeTurnedSaid : Prop := codeTurnedRow.holds Try.pinned (OpenSpec.ofChange codeTurnedSpec)

/-- ITS FALSE NEIGHBOUR: 'it returns false'. Refute it at one input. -/
def codeTurnedWrong : ChangeSpec := { name := "codeTurned", fn := fun _ => fun
  | [d1, d2, d3] => { results := [.lit (.bool false)], args := [d1, d2, d3] }
  | _ => none }
def CodeTurnedWrongFalsely : Prop := codeTurnedRow.holds Try.pinned (OpenSpec.ofChange codeTurnedWrong)

/-- 'ostinatolaw4.CodeBack': WHATEVER THE INPUT: true; the input reads as it did. -/
def codeBackSpec : ChangeSpec := { name := "codeBack", fn := fun _ => fun
  | [d1, d2, d3] => { results := [.lit (.bool true)], args := [d1, d2, d3] }
  | _ => none }
def codeBackRow : OpenClaim := { program := "ytkdnldoebghclaa", sum := "3ab686fc6aab0a06f4f1dc16ee7da8a558413644ce55fed835805d3334cede7e", func := "ostinato/ostinatolaw4.CodeBack", spec := "codeBack", apart := false }
def CodeBackSaid : Prop := codeBackRow.holds Try.pinned (OpenSpec.ofChange codeBackSpec)

/-- ITS FALSE NEIGHBOUR: 'it returns false'. Refute it at one input. -/
def codeBackWrong : ChangeSpec := { name := "codeBack", fn := fun _ => fun
  | [d1, d2, d3] => { results := [.lit (.bool false)], args := [d1, d2, d3] }
  | _ => none }
def CodeBackWrongFalsely : Prop := codeBackRow.holds Try.pinned (OpenSpec.ofChange codeBackWrong)

/-- 'ostinatolaw4.CodeTail': WHATEVER THE INPUT: true; the input reads as it did. -/
def codeTailSpec : ChangeSpec := { name := "codeTail", fn := fun _ => fun
  | [d1, d2] => { results := [.lit (.bool true)], args := [d1, d2] }
  | _ => none }
def codeTailRow : OpenClaim := { program := "ytkdnldoebghclaa", sum := "3ab686fc6aab0a06f4f1dc16ee7da8a558413644ce55fed835805d3334cede7e", func := "ostinato/ostinatolaw4.CodeTail", spec := "codeTail", apart := false }
def CodeTailSaid : Prop := codeTailRow.holds Try.pinned (OpenSpec.ofChange codeTailSpec)

/-- ITS FALSE NEIGHBOUR: 'it returns false'. Refute it at one input. -/
def codeTailWrong : ChangeSpec := { name := "codeTail", fn := fun _ => fun
  | [d1, d2] => { results := [.lit (.bool false)], args := [d1, d2] }
  | _ => none }
def CodeTailWrongFalsely : Prop := codeTailRow.holds Try.pinned (OpenSpec.ofChange codeTailWrong)

/-- 'ostinatolaw4.CodeSums': WHATEVER THE INPUT: true; the input reads as it did. -/
def codeSumsSpec : ChangeSpec := { name := "codeSums", fn := fun _ => fun
  | [d1, d2] => { results := [.lit (.bool true)], args := [d1, d2] }
  | _ => none }
def codeSumsRow : OpenClaim := { program := "ytkdnldoebghclaa", sum := "3ab686fc6aab0a06f4f1dc16ee7da8a558413644ce55fed835805d3334cede7e", func := "ostinato/ostinatolaw4.CodeSums", spec := "codeSums", apart := false }
def CodeSumsSaid : Prop := codeSumsRow.holds Try.pinned (OpenSpec.ofChange codeSumsSpec)

/-- ITS FALSE NEIGHBOUR: 'it returns false'. Refute it at one input. -/
def codeSumsWrong : ChangeSpec := { name := "codeSums", fn := fun _ => fun
  | [d1, d2] => { results := [.lit (.bool false)], args := [d1, d2] }
  | _ => none }
def CodeSumsWrongFalsely : Prop := codeSumsRow.holds Try.pinned (OpenSpec.ofChange codeSumsWrong)

/-- 'ostinatolaw4.CodeLong': WHATEVER THE INPUT: true; the input reads as it did. -/
def codeLongSpec : ChangeSpec := { name := "codeLong", fn := fun _ => fun
  | [d] => { results := [.lit (.bool true)], args := [d] }
  | _ => none }
def codeLongRow : OpenClaim := { program := "ytkdnldoebghclaa", sum := "3ab686fc6aab0a06f4f1dc16ee7da8a558413644ce55fed835805d3334cede7e", func := "ostinato/ostinatolaw4.CodeLong", spec := "codeLong", apart := false }
def CodeLongSaid : Prop := codeLongRow.holds Try.pinned (OpenSpec.ofChange codeLongSpec)

/-- ITS FALSE NEIGHBOUR: 'it returns false'. Refute it at one input. -/
def codeLongWrong : ChangeSpec := { name := "codeLong", fn := fun _ => fun
  | [d] => { results := [.lit (.bool false)], args := [d] }
  | _ => none }
def CodeLongWrongFalsely : Prop := codeLongRow.holds Try.pinned (OpenSpec.ofChange codeLongWrong)

/-- 'ostinatolaw4.CodeSix': WHATEVER THE INPUT: true; the input reads as it did. -/
def codeSixSpec : ChangeSpec := { name := "codeSix", fn := fun _ => fun
  | [d1, d2, d3] => { results := [.lit (.bool true)], args := [d1, d2, d3] }
  | _ => none }
def codeSixRow : OpenClaim := { program := "ytkdnldoebghclaa", sum := "3ab686fc6aab0a06f4f1dc16ee7da8a558413644ce55fed835805d3334cede7e", func := "ostinato/ostinatolaw4.CodeSix", spec := "codeSix", apart := false }
def CodeSixSaid : Prop := codeSixRow.holds Try.pinned (OpenSpec.ofChange codeSixSpec)

/-- ITS FALSE NEIGHBOUR: 'it returns false'. Refute it at one input. -/
def codeSixWrong : ChangeSpec := { name := "codeSix", fn := fun _ => fun
  | [d1, d2, d3] => { results := [.lit (.bool false)], args := [d1, d2, d3] }
  | _ => none }
def CodeSixWrongFalsely : Prop := codeSixRow.holds Try.pinned (OpenSpec.ofChange codeSixWrong)

/-- 'ostinatolaw4.CodeOne': WHATEVER THE INPUT: true; the input reads as it did. -/
def codeOneSpec : ChangeSpec := { name := "codeOne", fn := fun _ => fun
  | [d1, d2] => { results := [.lit (.bool true)], args := [d1, d2] }
  | _ => none }
def codeOneRow : OpenClaim := { program := "ytkdnldoebghclaa", sum := "3ab686fc6aab0a06f4f1dc16ee7da8a558413644ce55fed835805d3334cede7e", func := "ostinato/ostinatolaw4.CodeOne", spec := "codeOne", apart := false }
def CodeOneSaid : Prop := codeOneRow.holds Try.pinned (OpenSpec.ofChange codeOneSpec)

/-- ITS FALSE NEIGHBOUR: 'it returns false'. Refute it at one input. -/
def codeOneWrong : ChangeSpec := { name := "codeOne", fn := fun _ => fun
  | [d1, d2] => { results := [.lit (.bool false)], args := [d1, d2] }
  | _ => none }
def CodeOneWrongFalsely : Prop := codeOneRow.holds Try.pinned (OpenSpec.ofChange codeOneWrong)

/-- 'ostinatolaw4.CodeFront': WHATEVER THE INPUT: true; the input reads as it did. -/
def codeFrontSpec : ChangeSpec := { name := "codeFront", fn := fun _ => fun
  | [d1, d2] => { results := [.lit (.bool true)], args := [d1, d2] }
  | _ => none }
def codeFrontRow : OpenClaim := { program := "ytkdnldoebghclaa", sum := "3ab686fc6aab0a06f4f1dc16ee7da8a558413644ce55fed835805d3334cede7e", func := "ostinato/ostinatolaw4.CodeFront", spec := "codeFront", apart := false }
def CodeFrontSaid : Prop := codeFrontRow.holds Try.pinned (OpenSpec.ofChange codeFrontSpec)

/-- ITS FALSE NEIGHBOUR: 'it returns false'. Refute it at one input. -/
def codeFrontWrong : ChangeSpec := { name := "codeFront", fn := fun _ => fun
  | [d1, d2] => { results := [.lit (.bool false)], args := [d1, d2] }
  | _ => none }
def CodeFrontWrongFalsely : Prop := codeFrontRow.holds Try.pinned (OpenSpec.ofChange codeFrontWrong)

/- THE SECOND FORM. 'bulk': how many values and letters a reading holds, each counted each time it is reached (what is shared counts as often as it is met; a slice's spare places count too). A statement '..UptoSaid' is the law's where the arguments, and the package variables that the reading takes, are together of bulk at most 1048576: NARROWER than '..Said'. Prove '..Said' where nothing that the law and all that it calls make is longer than what came in: it says more and counts as full. Else prove '..UptoSaid'. A law counts once. -/
mutual
def uptoBulk {H : Type} : DataW H → Nat
  | .lit (.string bytes) => bytes.length + 1
  | .lit _ => 1
  | .nil => 1
  | .ptr d => uptoBulk d + 1
  | .slice elems spare => uptoBulkAll elems + uptoBulkAll spare + 1
  | .agg parts => uptoBulkAll parts + 1
  | .iface _ d => uptoBulk d + 1
  | .map entries => uptoBulkEntries entries + 1
  | .held _ => 1
def uptoBulkAll {H : Type} : List (DataW H) → Nat
  | [] => 0
  | d :: r => uptoBulk d + uptoBulkAll r
def uptoBulkEntries {H : Type} : List (Lit × DataW H) → Nat
  | [] => 0
  | x :: r => uptoBulkEntry x + uptoBulkEntries r
def uptoBulkEntry {H : Type} : Lit × DataW H → Nat
  | (.string bytes, d) => bytes.length + uptoBulk d + 1
  | (_, d) => uptoBulk d + 1
 end
def uptoSmall : (H : Type) → List (DataW H) → Bool := fun _ ds => decide (uptoBulkAll ds ≤ 1048576)
def OpenSpec.upto (s : _root_.Go.ChangeSpec) : _root_.Go.OpenSpec := { _root_.Go.OpenSpec.ofChange s with cond := some uptoSmall }

/-- 'ostinatolaw4.CodeWrites', WHERE WHAT IT READS IS OF BULK AT MOST 1048576: true; the input reads as it did. -/
def codeWritesUptoRow : OpenClaim := { program := "ytkdnldoebghclaa", sum := "3ab686fc6aab0a06f4f1dc16ee7da8a558413644ce55fed835805d3334cede7e", func := "ostinato/ostinatolaw4.CodeWrites", spec := "codeWrites", apart := false, narrowed := true }
def CodeWritesUptoSaid : Prop := codeWritesUptoRow.holds Try.pinned (OpenSpec.upto codeWritesSpec)

/-- 'ostinatolaw4.CodeReads', WHERE WHAT IT READS IS OF BULK AT MOST 1048576: true; the input reads as it did. -/
def codeReadsUptoRow : OpenClaim := { program := "ytkdnldoebghclaa", sum := "3ab686fc6aab0a06f4f1dc16ee7da8a558413644ce55fed835805d3334cede7e", func := "ostinato/ostinatolaw4.CodeReads", spec := "codeReads", apart := false, narrowed := true }
def CodeReadsUptoSaid : Prop := codeReadsUptoRow.holds Try.pinned (OpenSpec.upto codeReadsSpec)

/-- 'ostinatolaw4.CodeTurned', WHERE WHAT IT READS IS OF BULK AT MOST 1048576: true; the input reads as it did. -/
def codeTurnedUptoRow : OpenClaim := { program := "ytkdnldoebghclaa", sum := "3ab686fc6aab0a06f4f1dc16ee7da8a558413644ce55fed835805d3334cede7e", func := "ostinato/ostinatolaw4.CodeTurned", spec := "codeTurned", apart := false, narrowed := true }
def CodeTurnedUptoSaid : Prop := codeTurnedUptoRow.holds Try.pinned (OpenSpec.upto codeTurnedSpec)

/-- 'ostinatolaw4.CodeBack', WHERE WHAT IT READS IS OF BULK AT MOST 1048576: true; the input reads as it did. -/
def codeBackUptoRow : OpenClaim := { program := "ytkdnldoebghclaa", sum := "3ab686fc6aab0a06f4f1dc16ee7da8a558413644ce55fed835805d3334cede7e", func := "ostinato/ostinatolaw4.CodeBack", spec := "codeBack", apart := false, narrowed := true }
def CodeBackUptoSaid : Prop := codeBackUptoRow.holds Try.pinned (OpenSpec.upto codeBackSpec)

/-- 'ostinatolaw4.CodeTail', WHERE WHAT IT READS IS OF BULK AT MOST 1048576: true; the input reads as it did. -/
def codeTailUptoRow : OpenClaim := { program := "ytkdnldoebghclaa", sum := "3ab686fc6aab0a06f4f1dc16ee7da8a558413644ce55fed835805d3334cede7e", func := "ostinato/ostinatolaw4.CodeTail", spec := "codeTail", apart := false, narrowed := true }
def CodeTailUptoSaid : Prop := codeTailUptoRow.holds Try.pinned (OpenSpec.upto codeTailSpec)

/-- 'ostinatolaw4.CodeSums', WHERE WHAT IT READS IS OF BULK AT MOST 1048576: true; the input reads as it did. -/
def codeSumsUptoRow : OpenClaim := { program := "ytkdnldoebghclaa", sum := "3ab686fc6aab0a06f4f1dc16ee7da8a558413644ce55fed835805d3334cede7e", func := "ostinato/ostinatolaw4.CodeSums", spec := "codeSums", apart := false, narrowed := true }
def CodeSumsUptoSaid : Prop := codeSumsUptoRow.holds Try.pinned (OpenSpec.upto codeSumsSpec)

/-- 'ostinatolaw4.CodeLong', WHERE WHAT IT READS IS OF BULK AT MOST 1048576: true; the input reads as it did. -/
def codeLongUptoRow : OpenClaim := { program := "ytkdnldoebghclaa", sum := "3ab686fc6aab0a06f4f1dc16ee7da8a558413644ce55fed835805d3334cede7e", func := "ostinato/ostinatolaw4.CodeLong", spec := "codeLong", apart := false, narrowed := true }
def CodeLongUptoSaid : Prop := codeLongUptoRow.holds Try.pinned (OpenSpec.upto codeLongSpec)

/-- 'ostinatolaw4.CodeSix', WHERE WHAT IT READS IS OF BULK AT MOST 1048576: true; the input reads as it did. -/
def codeSixUptoRow : OpenClaim := { program := "ytkdnldoebghclaa", sum := "3ab686fc6aab0a06f4f1dc16ee7da8a558413644ce55fed835805d3334cede7e", func := "ostinato/ostinatolaw4.CodeSix", spec := "codeSix", apart := false, narrowed := true }
def CodeSixUptoSaid : Prop := codeSixUptoRow.holds Try.pinned (OpenSpec.upto codeSixSpec)

/-- 'ostinatolaw4.CodeOne', WHERE WHAT IT READS IS OF BULK AT MOST 1048576: true; the input reads as it did. -/
def codeOneUptoRow : OpenClaim := { program := "ytkdnldoebghclaa", sum := "3ab686fc6aab0a06f4f1dc16ee7da8a558413644ce55fed835805d3334cede7e", func := "ostinato/ostinatolaw4.CodeOne", spec := "codeOne", apart := false, narrowed := true }
def CodeOneUptoSaid : Prop := codeOneUptoRow.holds Try.pinned (OpenSpec.upto codeOneSpec)

/-- 'ostinatolaw4.CodeFront', WHERE WHAT IT READS IS OF BULK AT MOST 1048576: true; the input reads as it did. -/
def codeFrontUptoRow : OpenClaim := { program := "ytkdnldoebghclaa", sum := "3ab686fc6aab0a06f4f1dc16ee7da8a558413644ce55fed835805d3334cede7e", func := "ostinato/ostinatolaw4.CodeFront", spec := "codeFront", apart := false, narrowed := true }
def CodeFrontUptoSaid : Prop := codeFrontUptoRow.holds Try.pinned (OpenSpec.upto codeFrontSpec)

end Rows
end Go.Proofs.Ytkdnldoebghclaa
