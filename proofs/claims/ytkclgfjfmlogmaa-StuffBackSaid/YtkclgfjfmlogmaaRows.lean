/-
  No cell of these rows narrows 'for every input' (looked for: loops, veiled, ifaces, maps, wideKeys, modest, calm, conditions, laid).
  DERIVED. THE GIVEN ROWS OF THIS SEAT. 6 by the template 'for every input the law returns true; each argument reads behind the call as it read before'; 0 by the template 'total and deterministic' (their statements: YtkclgfjfmlogmaaTotals.lean).
  GIVEN WITH THE SEED: the statements are not yours to turn. If you find one false, say at which input.
  Laid BY PROGRAM, IN A SANDBOX (cutbox-rows.mjs): the forced cells as the released guide's own fill.sh prints them over the translation 54d0eaacd7df0bcb… (all of the seat's roots in one cut). By AI agents, Wed Nov 11 2026. No macro, syntax, notation, axiom, sorry.
-/
import Derived.Test.YtkclgfjfmlogmaaChecked
import GoSem.Claim
import GoSem.ClaimJoined
import GoSem.ClaimMapViews
import Derived.JoinedTies
import Derived.KernelRfl
namespace Go.Proofs.Ytkclgfjfmlogmaa
/- THE CELL 'sum', in the pinned program and in every row, IS THE sha256 OF THE DUMP (.gsa) THAT YtkclgfjfmlogmaaProg.lean LOADS. Nothing in Lean hashes anything: it is a label: what it is worth is what the hold of that sum in a sandbox is worth. -/
noncomputable def Try.pinned : Pinned := { name := "ytkclgfjfmlogmaa", sum := "54d0eaacd7df0bcbd4c3d51ff5355e200100d6720c3198a99228729d94b6669e", checked := Try.checked }
namespace Rows
def none {H : Type} : Left H := { results := [], args := [] }

/-- 'ostinatolaw2.StuffBack': WHATEVER THE INPUT: true; the input reads as it did. -/
def stuffBackSpec : ChangeSpec := { name := "stuffBack", fn := fun _ => fun
  | [d1, d2, d3] => { results := [.lit (.bool true)], args := [d1, d2, d3] }
  | _ => none }
def stuffBackRow : OpenClaim := { program := "ytkclgfjfmlogmaa", sum := "54d0eaacd7df0bcbd4c3d51ff5355e200100d6720c3198a99228729d94b6669e", func := "ostinato/ostinatolaw2.StuffBack", spec := "stuffBack", apart := false }
def StuffBackSaid : Prop := stuffBackRow.holds Try.pinned (OpenSpec.ofChange stuffBackSpec)

/-- ITS FALSE NEIGHBOUR: 'it returns false'. Refute it at one input. -/
def stuffBackWrong : ChangeSpec := { name := "stuffBack", fn := fun _ => fun
  | [d1, d2, d3] => { results := [.lit (.bool false)], args := [d1, d2, d3] }
  | _ => none }
def StuffBackWrongFalsely : Prop := stuffBackRow.holds Try.pinned (OpenSpec.ofChange stuffBackWrong)

/-- 'ostinatolaw2.StuffWorst': WHATEVER THE INPUT: true; the input reads as it did. -/
def stuffWorstSpec : ChangeSpec := { name := "stuffWorst", fn := fun _ => fun
  | [d1, d2] => { results := [.lit (.bool true)], args := [d1, d2] }
  | _ => none }
def stuffWorstRow : OpenClaim := { program := "ytkclgfjfmlogmaa", sum := "54d0eaacd7df0bcbd4c3d51ff5355e200100d6720c3198a99228729d94b6669e", func := "ostinato/ostinatolaw2.StuffWorst", spec := "stuffWorst", apart := false }
def StuffWorstSaid : Prop := stuffWorstRow.holds Try.pinned (OpenSpec.ofChange stuffWorstSpec)

/-- ITS FALSE NEIGHBOUR: 'it returns false'. Refute it at one input. -/
def stuffWorstWrong : ChangeSpec := { name := "stuffWorst", fn := fun _ => fun
  | [d1, d2] => { results := [.lit (.bool false)], args := [d1, d2] }
  | _ => none }
def StuffWorstWrongFalsely : Prop := stuffWorstRow.holds Try.pinned (OpenSpec.ofChange stuffWorstWrong)

/-- 'ostinatolaw2.StuffSix': WHATEVER THE INPUT: true; the input reads as it did. -/
def stuffSixSpec : ChangeSpec := { name := "stuffSix", fn := fun _ => fun
  | [d1, d2, d3] => { results := [.lit (.bool true)], args := [d1, d2, d3] }
  | _ => none }
def stuffSixRow : OpenClaim := { program := "ytkclgfjfmlogmaa", sum := "54d0eaacd7df0bcbd4c3d51ff5355e200100d6720c3198a99228729d94b6669e", func := "ostinato/ostinatolaw2.StuffSix", spec := "stuffSix", apart := false }
def StuffSixSaid : Prop := stuffSixRow.holds Try.pinned (OpenSpec.ofChange stuffSixSpec)

/-- ITS FALSE NEIGHBOUR: 'it returns false'. Refute it at one input. -/
def stuffSixWrong : ChangeSpec := { name := "stuffSix", fn := fun _ => fun
  | [d1, d2, d3] => { results := [.lit (.bool false)], args := [d1, d2, d3] }
  | _ => none }
def StuffSixWrongFalsely : Prop := stuffSixRow.holds Try.pinned (OpenSpec.ofChange stuffSixWrong)

/-- 'ostinatolaw2.StuffJoin': WHATEVER THE INPUT: true; the input reads as it did. -/
def stuffJoinSpec : ChangeSpec := { name := "stuffJoin", fn := fun _ => fun
  | [d1, d2] => { results := [.lit (.bool true)], args := [d1, d2] }
  | _ => none }
def stuffJoinRow : OpenClaim := { program := "ytkclgfjfmlogmaa", sum := "54d0eaacd7df0bcbd4c3d51ff5355e200100d6720c3198a99228729d94b6669e", func := "ostinato/ostinatolaw2.StuffJoin", spec := "stuffJoin", apart := false }
def StuffJoinSaid : Prop := stuffJoinRow.holds Try.pinned (OpenSpec.ofChange stuffJoinSpec)

/-- ITS FALSE NEIGHBOUR: 'it returns false'. Refute it at one input. -/
def stuffJoinWrong : ChangeSpec := { name := "stuffJoin", fn := fun _ => fun
  | [d1, d2] => { results := [.lit (.bool false)], args := [d1, d2] }
  | _ => none }
def StuffJoinWrongFalsely : Prop := stuffJoinRow.holds Try.pinned (OpenSpec.ofChange stuffJoinWrong)

/-- 'ostinatolaw2.StuffOpposite': WHATEVER THE INPUT: true; the input reads as it did. -/
def stuffOppositeSpec : ChangeSpec := { name := "stuffOpposite", fn := fun _ => fun
  | [d] => { results := [.lit (.bool true)], args := [d] }
  | _ => none }
def stuffOppositeRow : OpenClaim := { program := "ytkclgfjfmlogmaa", sum := "54d0eaacd7df0bcbd4c3d51ff5355e200100d6720c3198a99228729d94b6669e", func := "ostinato/ostinatolaw2.StuffOpposite", spec := "stuffOpposite", apart := false }
def StuffOppositeSaid : Prop := stuffOppositeRow.holds Try.pinned (OpenSpec.ofChange stuffOppositeSpec)

/-- ITS FALSE NEIGHBOUR: 'it returns false'. Refute it at one input. -/
def stuffOppositeWrong : ChangeSpec := { name := "stuffOpposite", fn := fun _ => fun
  | [d] => { results := [.lit (.bool false)], args := [d] }
  | _ => none }
def StuffOppositeWrongFalsely : Prop := stuffOppositeRow.holds Try.pinned (OpenSpec.ofChange stuffOppositeWrong)

/-- 'ostinatolaw2.StuffQuiet': WHATEVER THE INPUT: true; the input reads as it did. -/
def stuffQuietSpec : ChangeSpec := { name := "stuffQuiet", fn := fun _ => fun
  | [d] => { results := [.lit (.bool true)], args := [d] }
  | _ => none }
def stuffQuietRow : OpenClaim := { program := "ytkclgfjfmlogmaa", sum := "54d0eaacd7df0bcbd4c3d51ff5355e200100d6720c3198a99228729d94b6669e", func := "ostinato/ostinatolaw2.StuffQuiet", spec := "stuffQuiet", apart := false }
def StuffQuietSaid : Prop := stuffQuietRow.holds Try.pinned (OpenSpec.ofChange stuffQuietSpec)

/-- ITS FALSE NEIGHBOUR: 'it returns false'. Refute it at one input. -/
def stuffQuietWrong : ChangeSpec := { name := "stuffQuiet", fn := fun _ => fun
  | [d] => { results := [.lit (.bool false)], args := [d] }
  | _ => none }
def StuffQuietWrongFalsely : Prop := stuffQuietRow.holds Try.pinned (OpenSpec.ofChange stuffQuietWrong)

/- THE SECOND FORM. 'bulk': how many values and letters a reading holds, each counted each time it is reached (what is shared counts as often as it is met; a slice's spare places count too). A statement '..UptoSaid' is the law's where the arguments, and the package variables that the reading takes, are together of bulk at most 1048576: NARROWER than '..Said'. Prove '..Said' where nothing that the law and all that it calls make is longer than what came in: it says more and counts as full. Else prove '..UptoSaid'. A law counts once. -/
mutual
def uptoBulk {H : Type} : DataW H → Nat
  | .lit (.string bytes) => bytes.length + 1
  | .lit _ => 1
  | .nil => 1
  | .ptr d => uptoBulk d + 1
  | .slice elems spare => uptoBulkAll elems + uptoBulkAll spare + 1
  | .agg parts => uptoBulkAll parts + 1
  | .iface _ d => uptoBulk d + 1
  | .map entries => uptoBulkEntries entries + 1
  | .held _ => 1
def uptoBulkAll {H : Type} : List (DataW H) → Nat
  | [] => 0
  | d :: r => uptoBulk d + uptoBulkAll r
def uptoBulkEntries {H : Type} : List (Lit × DataW H) → Nat
  | [] => 0
  | x :: r => uptoBulkEntry x + uptoBulkEntries r
def uptoBulkEntry {H : Type} : Lit × DataW H → Nat
  | (.string bytes, d) => bytes.length + uptoBulk d + 1
  | (_, d) => uptoBulk d + 1
 end
def uptoSmall : (H : Type) → List (DataW H) → Bool := fun _ ds => decide (uptoBulkAll ds ≤ 1048576)
def OpenSpec.upto (s : _root_.Go.ChangeSpec) : _root_.Go.OpenSpec := { _root_.Go.OpenSpec.ofChange s with cond := some uptoSmall }

/-- 'ostinatolaw2.StuffBack', WHERE WHAT IT READS IS OF BULK AT MOST 1048576: true; the input reads as it did. -/
def stuffBackUptoRow : OpenClaim := { program := "ytkclgfjfmlogmaa", sum := "54d0eaacd7df0bcbd4c3d51ff5355e200100d6720c3198a99228729d94b6669e", func := "ostinato/ostinatolaw2.StuffBack", spec := "stuffBack", apart := false, narrowed := true }
def StuffBackUptoSaid : Prop := stuffBackUptoRow.holds Try.pinned (OpenSpec.upto stuffBackSpec)

/-- 'ostinatolaw2.StuffWorst', WHERE WHAT IT READS IS OF BULK AT MOST 1048576: true; the input reads as it did. -/
def stuffWorstUptoRow : OpenClaim := { program := "ytkclgfjfmlogmaa", sum := "54d0eaacd7df0bcbd4c3d51ff5355e200100d6720c3198a99228729d94b6669e", func := "ostinato/ostinatolaw2.StuffWorst", spec := "stuffWorst", apart := false, narrowed := true }
def StuffWorstUptoSaid : Prop := stuffWorstUptoRow.holds Try.pinned (OpenSpec.upto stuffWorstSpec)

/-- 'ostinatolaw2.StuffSix', WHERE WHAT IT READS IS OF BULK AT MOST 1048576: true; the input reads as it did. -/
def stuffSixUptoRow : OpenClaim := { program := "ytkclgfjfmlogmaa", sum := "54d0eaacd7df0bcbd4c3d51ff5355e200100d6720c3198a99228729d94b6669e", func := "ostinato/ostinatolaw2.StuffSix", spec := "stuffSix", apart := false, narrowed := true }
def StuffSixUptoSaid : Prop := stuffSixUptoRow.holds Try.pinned (OpenSpec.upto stuffSixSpec)

/-- 'ostinatolaw2.StuffJoin', WHERE WHAT IT READS IS OF BULK AT MOST 1048576: true; the input reads as it did. -/
def stuffJoinUptoRow : OpenClaim := { program := "ytkclgfjfmlogmaa", sum := "54d0eaacd7df0bcbd4c3d51ff5355e200100d6720c3198a99228729d94b6669e", func := "ostinato/ostinatolaw2.StuffJoin", spec := "stuffJoin", apart := false, narrowed := true }
def StuffJoinUptoSaid : Prop := stuffJoinUptoRow.holds Try.pinned (OpenSpec.upto stuffJoinSpec)

/-- 'ostinatolaw2.StuffOpposite', WHERE WHAT IT READS IS OF BULK AT MOST 1048576: true; the input reads as it did. -/
def stuffOppositeUptoRow : OpenClaim := { program := "ytkclgfjfmlogmaa", sum := "54d0eaacd7df0bcbd4c3d51ff5355e200100d6720c3198a99228729d94b6669e", func := "ostinato/ostinatolaw2.StuffOpposite", spec := "stuffOpposite", apart := false, narrowed := true }
def StuffOppositeUptoSaid : Prop := stuffOppositeUptoRow.holds Try.pinned (OpenSpec.upto stuffOppositeSpec)

/-- 'ostinatolaw2.StuffQuiet', WHERE WHAT IT READS IS OF BULK AT MOST 1048576: true; the input reads as it did. -/
def stuffQuietUptoRow : OpenClaim := { program := "ytkclgfjfmlogmaa", sum := "54d0eaacd7df0bcbd4c3d51ff5355e200100d6720c3198a99228729d94b6669e", func := "ostinato/ostinatolaw2.StuffQuiet", spec := "stuffQuiet", apart := false, narrowed := true }
def StuffQuietUptoSaid : Prop := stuffQuietUptoRow.holds Try.pinned (OpenSpec.upto stuffQuietSpec)

end Rows
end Go.Proofs.Ytkclgfjfmlogmaa
