/-
  No cell of these rows narrows 'for every input' (looked for: loops, veiled, ifaces, maps, wideKeys, modest, calm, conditions, laid).
  DERIVED. THE GIVEN ROWS OF THIS SEAT. 10 by the template 'for every input the law returns true; each argument reads behind the call as it read before'; 0 by the template 'total and deterministic' (their statements: YtgmjofcbdimjgaaTotals.lean).
  GIVEN WITH THE SEED: the statements are not yours to turn. If you find one false, say at which input.
  Laid BY PROGRAM, IN A SANDBOX (cutbox-rows.mjs): the forced cells as the released guide's own fill.sh prints them over the translation 68b3c8949135a6e3… (all of the seat's roots in one cut). By AI agents, Wed Nov 11 2026. No macro, syntax, notation, axiom, sorry.
-/
import Derived.Test.YtgmjofcbdimjgaaChecked
import GoSem.Claim
import GoSem.ClaimJoined
import GoSem.ClaimMapViews
import Derived.JoinedTies
import Derived.KernelRfl
namespace Go.Proofs.Ytgmjofcbdimjgaa
/- THE CELL 'sum', in the pinned program and in every row, IS THE sha256 OF THE DUMP (.gsa) THAT YtgmjofcbdimjgaaProg.lean LOADS. Nothing in Lean hashes anything: it is a label: what it is worth is what the hold of that sum in a sandbox is worth. -/
noncomputable def Try.pinned : Pinned := { name := "ytgmjofcbdimjgaa", sum := "68b3c8949135a6e3fdc75479790c3fd5cbab423c5d9342621b52a64050dc8ec4", checked := Try.checked }
namespace Rows
def none {H : Type} : Left H := { results := [], args := [] }

/-- 'ostinatolaw7.MacHears': WHATEVER THE INPUT: true; the input reads as it did. -/
def macHearsSpec : ChangeSpec := { name := "macHears", fn := fun _ => fun
  | [d1, d2] => { results := [.lit (.bool true)], args := [d1, d2] }
  | _ => none }
def macHearsRow : OpenClaim := { program := "ytgmjofcbdimjgaa", sum := "68b3c8949135a6e3fdc75479790c3fd5cbab423c5d9342621b52a64050dc8ec4", func := "ostinato/ostinatolaw7.MacHears", spec := "macHears", apart := false }
def MacHearsSaid : Prop := macHearsRow.holds Try.pinned (OpenSpec.ofChange macHearsSpec)

/-- ITS FALSE NEIGHBOUR: 'it returns false'. Refute it at one input. -/
def macHearsWrong : ChangeSpec := { name := "macHears", fn := fun _ => fun
  | [d1, d2] => { results := [.lit (.bool false)], args := [d1, d2] }
  | _ => none }
def MacHearsWrongFalsely : Prop := macHearsRow.holds Try.pinned (OpenSpec.ofChange macHearsWrong)

/-- 'ostinatolaw7.MacLoses': WHATEVER THE INPUT: true; the input reads as it did. -/
def macLosesSpec : ChangeSpec := { name := "macLoses", fn := fun _ => fun
  | [d1, d2] => { results := [.lit (.bool true)], args := [d1, d2] }
  | _ => none }
def macLosesRow : OpenClaim := { program := "ytgmjofcbdimjgaa", sum := "68b3c8949135a6e3fdc75479790c3fd5cbab423c5d9342621b52a64050dc8ec4", func := "ostinato/ostinatolaw7.MacLoses", spec := "macLoses", apart := false }
def MacLosesSaid : Prop := macLosesRow.holds Try.pinned (OpenSpec.ofChange macLosesSpec)

/-- ITS FALSE NEIGHBOUR: 'it returns false'. Refute it at one input. -/
def macLosesWrong : ChangeSpec := { name := "macLoses", fn := fun _ => fun
  | [d1, d2] => { results := [.lit (.bool false)], args := [d1, d2] }
  | _ => none }
def MacLosesWrongFalsely : Prop := macLosesRow.holds Try.pinned (OpenSpec.ofChange macLosesWrong)

/-- 'ostinatolaw7.MacFlags': WHATEVER THE INPUT: true; the input reads as it did. -/
def macFlagsSpec : ChangeSpec := { name := "macFlags", fn := fun _ => fun
  | [d] => { results := [.lit (.bool true)], args := [d] }
  | _ => none }
def macFlagsRow : OpenClaim := { program := "ytgmjofcbdimjgaa", sum := "68b3c8949135a6e3fdc75479790c3fd5cbab423c5d9342621b52a64050dc8ec4", func := "ostinato/ostinatolaw7.MacFlags", spec := "macFlags", apart := false }
def MacFlagsSaid : Prop := macFlagsRow.holds Try.pinned (OpenSpec.ofChange macFlagsSpec)

/-- ITS FALSE NEIGHBOUR: 'it returns false'. Refute it at one input. -/
def macFlagsWrong : ChangeSpec := { name := "macFlags", fn := fun _ => fun
  | [d] => { results := [.lit (.bool false)], args := [d] }
  | _ => none }
def MacFlagsWrongFalsely : Prop := macFlagsRow.holds Try.pinned (OpenSpec.ofChange macFlagsWrong)

/-- 'ostinatolaw7.MacBit': WHATEVER THE INPUT: true; the input reads as it did. -/
def macBitSpec : ChangeSpec := { name := "macBit", fn := fun _ => fun
  | [d1, d2] => { results := [.lit (.bool true)], args := [d1, d2] }
  | _ => none }
def macBitRow : OpenClaim := { program := "ytgmjofcbdimjgaa", sum := "68b3c8949135a6e3fdc75479790c3fd5cbab423c5d9342621b52a64050dc8ec4", func := "ostinato/ostinatolaw7.MacBit", spec := "macBit", apart := false }
def MacBitSaid : Prop := macBitRow.holds Try.pinned (OpenSpec.ofChange macBitSpec)

/-- ITS FALSE NEIGHBOUR: 'it returns false'. Refute it at one input. -/
def macBitWrong : ChangeSpec := { name := "macBit", fn := fun _ => fun
  | [d1, d2] => { results := [.lit (.bool false)], args := [d1, d2] }
  | _ => none }
def MacBitWrongFalsely : Prop := macBitRow.holds Try.pinned (OpenSpec.ofChange macBitWrong)

/-- 'ostinatolaw7.MacWaits': WHATEVER THE INPUT: true; the input reads as it did. -/
def macWaitsSpec : ChangeSpec := { name := "macWaits", fn := fun _ => fun
  | [d1, d2, d3] => { results := [.lit (.bool true)], args := [d1, d2, d3] }
  | _ => none }
def macWaitsRow : OpenClaim := { program := "ytgmjofcbdimjgaa", sum := "68b3c8949135a6e3fdc75479790c3fd5cbab423c5d9342621b52a64050dc8ec4", func := "ostinato/ostinatolaw7.MacWaits", spec := "macWaits", apart := false }
def MacWaitsSaid : Prop := macWaitsRow.holds Try.pinned (OpenSpec.ofChange macWaitsSpec)

/-- ITS FALSE NEIGHBOUR: 'it returns false'. Refute it at one input. -/
def macWaitsWrong : ChangeSpec := { name := "macWaits", fn := fun _ => fun
  | [d1, d2, d3] => { results := [.lit (.bool false)], args := [d1, d2, d3] }
  | _ => none }
def MacWaitsWrongFalsely : Prop := macWaitsRow.holds Try.pinned (OpenSpec.ofChange macWaitsWrong)

/-- 'ostinatolaw7.MacSums': WHATEVER THE INPUT: true; the input reads as it did. -/
def macSumsSpec : ChangeSpec := { name := "macSums", fn := fun _ => fun
  | [d1, d2] => { results := [.lit (.bool true)], args := [d1, d2] }
  | _ => none }
def macSumsRow : OpenClaim := { program := "ytgmjofcbdimjgaa", sum := "68b3c8949135a6e3fdc75479790c3fd5cbab423c5d9342621b52a64050dc8ec4", func := "ostinato/ostinatolaw7.MacSums", spec := "macSums", apart := false }
def MacSumsSaid : Prop := macSumsRow.holds Try.pinned (OpenSpec.ofChange macSumsSpec)

/-- ITS FALSE NEIGHBOUR: 'it returns false'. Refute it at one input. -/
def macSumsWrong : ChangeSpec := { name := "macSums", fn := fun _ => fun
  | [d1, d2] => { results := [.lit (.bool false)], args := [d1, d2] }
  | _ => none }
def MacSumsWrongFalsely : Prop := macSumsRow.holds Try.pinned (OpenSpec.ofChange macSumsWrong)

/-- 'ostinatolaw7.MacAlone': WHATEVER THE INPUT: true; the input reads as it did. -/
def macAloneSpec : ChangeSpec := { name := "macAlone", fn := fun _ => fun
  | [d] => { results := [.lit (.bool true)], args := [d] }
  | _ => none }
def macAloneRow : OpenClaim := { program := "ytgmjofcbdimjgaa", sum := "68b3c8949135a6e3fdc75479790c3fd5cbab423c5d9342621b52a64050dc8ec4", func := "ostinato/ostinatolaw7.MacAlone", spec := "macAlone", apart := false }
def MacAloneSaid : Prop := macAloneRow.holds Try.pinned (OpenSpec.ofChange macAloneSpec)

/-- ITS FALSE NEIGHBOUR: 'it returns false'. Refute it at one input. -/
def macAloneWrong : ChangeSpec := { name := "macAlone", fn := fun _ => fun
  | [d] => { results := [.lit (.bool false)], args := [d] }
  | _ => none }
def MacAloneWrongFalsely : Prop := macAloneRow.holds Try.pinned (OpenSpec.ofChange macAloneWrong)

/-- 'ostinatolaw7.MacPassive': WHATEVER THE INPUT: true; the input reads as it did. -/
def macPassiveSpec : ChangeSpec := { name := "macPassive", fn := fun _ => fun
  | [d] => { results := [.lit (.bool true)], args := [d] }
  | _ => none }
def macPassiveRow : OpenClaim := { program := "ytgmjofcbdimjgaa", sum := "68b3c8949135a6e3fdc75479790c3fd5cbab423c5d9342621b52a64050dc8ec4", func := "ostinato/ostinatolaw7.MacPassive", spec := "macPassive", apart := false }
def MacPassiveSaid : Prop := macPassiveRow.holds Try.pinned (OpenSpec.ofChange macPassiveSpec)

/-- ITS FALSE NEIGHBOUR: 'it returns false'. Refute it at one input. -/
def macPassiveWrong : ChangeSpec := { name := "macPassive", fn := fun _ => fun
  | [d] => { results := [.lit (.bool false)], args := [d] }
  | _ => none }
def MacPassiveWrongFalsely : Prop := macPassiveRow.holds Try.pinned (OpenSpec.ofChange macPassiveWrong)

/-- 'ostinatolaw7.MacCancels': WHATEVER THE INPUT: true; the input reads as it did. -/
def macCancelsSpec : ChangeSpec := { name := "macCancels", fn := fun _ => fun
  | [d1, d2] => { results := [.lit (.bool true)], args := [d1, d2] }
  | _ => none }
def macCancelsRow : OpenClaim := { program := "ytgmjofcbdimjgaa", sum := "68b3c8949135a6e3fdc75479790c3fd5cbab423c5d9342621b52a64050dc8ec4", func := "ostinato/ostinatolaw7.MacCancels", spec := "macCancels", apart := false }
def MacCancelsSaid : Prop := macCancelsRow.holds Try.pinned (OpenSpec.ofChange macCancelsSpec)

/-- ITS FALSE NEIGHBOUR: 'it returns false'. Refute it at one input. -/
def macCancelsWrong : ChangeSpec := { name := "macCancels", fn := fun _ => fun
  | [d1, d2] => { results := [.lit (.bool false)], args := [d1, d2] }
  | _ => none }
def MacCancelsWrongFalsely : Prop := macCancelsRow.holds Try.pinned (OpenSpec.ofChange macCancelsWrong)

/-- 'ostinatolaw7.MacPlays': WHATEVER THE INPUT: true; the input reads as it did. -/
def macPlaysSpec : ChangeSpec := { name := "macPlays", fn := fun _ => fun
  | [d] => { results := [.lit (.bool true)], args := [d] }
  | _ => none }
def macPlaysRow : OpenClaim := { program := "ytgmjofcbdimjgaa", sum := "68b3c8949135a6e3fdc75479790c3fd5cbab423c5d9342621b52a64050dc8ec4", func := "ostinato/ostinatolaw7.MacPlays", spec := "macPlays", apart := false }
def MacPlaysSaid : Prop := macPlaysRow.holds Try.pinned (OpenSpec.ofChange macPlaysSpec)

/-- ITS FALSE NEIGHBOUR: 'it returns false'. Refute it at one input. -/
def macPlaysWrong : ChangeSpec := { name := "macPlays", fn := fun _ => fun
  | [d] => { results := [.lit (.bool false)], args := [d] }
  | _ => none }
def MacPlaysWrongFalsely : Prop := macPlaysRow.holds Try.pinned (OpenSpec.ofChange macPlaysWrong)

/- THE SECOND FORM. 'bulk': how many values and letters a reading holds, each counted each time it is reached (what is shared counts as often as it is met; a slice's spare places count too). A statement '..UptoSaid' is the law's where the arguments, and the package variables that the reading takes, are together of bulk at most 1048576: NARROWER than '..Said'. Prove '..Said' where nothing that the law and all that it calls make is longer than what came in: it says more and counts as full. Else prove '..UptoSaid'. A law counts once. -/
mutual
def uptoBulk {H : Type} : DataW H → Nat
  | .lit (.string bytes) => bytes.length + 1
  | .lit _ => 1
  | .nil => 1
  | .ptr d => uptoBulk d + 1
  | .slice elems spare => uptoBulkAll elems + uptoBulkAll spare + 1
  | .agg parts => uptoBulkAll parts + 1
  | .iface _ d => uptoBulk d + 1
  | .map entries => uptoBulkEntries entries + 1
  | .held _ => 1
def uptoBulkAll {H : Type} : List (DataW H) → Nat
  | [] => 0
  | d :: r => uptoBulk d + uptoBulkAll r
def uptoBulkEntries {H : Type} : List (Lit × DataW H) → Nat
  | [] => 0
  | x :: r => uptoBulkEntry x + uptoBulkEntries r
def uptoBulkEntry {H : Type} : Lit × DataW H → Nat
  | (.string bytes, d) => bytes.length + uptoBulk d + 1
  | (_, d) => uptoBulk d + 1
 end
def uptoSmall : (H : Type) → List (DataW H) → Bool := fun _ ds => decide (uptoBulkAll ds ≤ 1048576)
def OpenSpec.upto (s : _root_.Go.ChangeSpec) : _root_.Go.OpenSpec := { _root_.Go.OpenSpec.ofChange s with cond := some uptoSmall }

/-- 'ostinatolaw7.MacHears', WHERE WHAT IT READS IS OF BULK AT MOST 1048576: true; the input reads as it did. -/
def macHearsUptoRow : OpenClaim := { program := "ytgmjofcbdimjgaa", sum := "68b3c8949135a6e3fdc75479790c3fd5cbab423c5d9342621b52a64050dc8ec4", func := "ostinato/ostinatolaw7.MacHears", spec := "macHears", apart := false, narrowed := true }
def MacHearsUptoSaid : Prop := macHearsUptoRow.holds Try.pinned (OpenSpec.upto macHearsSpec)

/-- 'ostinatolaw7.MacLoses', WHERE WHAT IT READS IS OF BULK AT MOST 1048576: true; the input reads as it did. -/
def macLosesUptoRow : OpenClaim := { program := "ytgmjofcbdimjgaa", sum := "68b3c8949135a6e3fdc75479790c3fd5cbab423c5d9342621b52a64050dc8ec4", func := "ostinato/ostinatolaw7.MacLoses", spec := "macLoses", apart := false, narrowed := true }
def MacLosesUptoSaid : Prop := macLosesUptoRow.holds Try.pinned (OpenSpec.upto macLosesSpec)

/-- 'ostinatolaw7.MacFlags', WHERE WHAT IT READS IS OF BULK AT MOST 1048576: true; the input reads as it did. -/
def macFlagsUptoRow : OpenClaim := { program := "ytgmjofcbdimjgaa", sum := "68b3c8949135a6e3fdc75479790c3fd5cbab423c5d9342621b52a64050dc8ec4", func := "ostinato/ostinatolaw7.MacFlags", spec := "macFlags", apart := false, narrowed := true }
def MacFlagsUptoSaid : Prop := macFlagsUptoRow.holds Try.pinned (OpenSpec.upto macFlagsSpec)

/-- 'ostinatolaw7.MacBit', WHERE WHAT IT READS IS OF BULK AT MOST 1048576: true; the input reads as it did. -/
def macBitUptoRow : OpenClaim := { program := "ytgmjofcbdimjgaa", sum := "68b3c8949135a6e3fdc75479790c3fd5cbab423c5d9342621b52a64050dc8ec4", func := "ostinato/ostinatolaw7.MacBit", spec := "macBit", apart := false, narrowed := true }
def MacBitUptoSaid : Prop := macBitUptoRow.holds Try.pinned (OpenSpec.upto macBitSpec)

/-- 'ostinatolaw7.MacWaits', WHERE WHAT IT READS IS OF BULK AT MOST 1048576: true; the input reads as it did. -/
def macWaitsUptoRow : OpenClaim := { program := "ytgmjofcbdimjgaa", sum := "68b3c8949135a6e3fdc75479790c3fd5cbab423c5d9342621b52a64050dc8ec4", func := "ostinato/ostinatolaw7.MacWaits", spec := "macWaits", apart := false, narrowed := true }
def MacWaitsUptoSaid : Prop := macWaitsUptoRow.holds Try.pinned (OpenSpec.upto macWaitsSpec)

/-- 'ostinatolaw7.MacSums', WHERE WHAT IT READS IS OF BULK AT MOST 1048576: true; the input reads as it did. -/
def macSumsUptoRow : OpenClaim := { program := "ytgmjofcbdimjgaa", sum := "68b3c8949135a6e3fdc75479790c3fd5cbab423c5d9342621b52a64050dc8ec4", func := "ostinato/ostinatolaw7.MacSums", spec := "macSums", apart := false, narrowed := true }
def MacSumsUptoSaid : Prop := macSumsUptoRow.holds Try.pinned (OpenSpec.upto macSumsSpec)

/-- 'ostinatolaw7.MacAlone', WHERE WHAT IT READS IS OF BULK AT MOST 1048576: true; the input reads as it did. -/
def macAloneUptoRow : OpenClaim := { program := "ytgmjofcbdimjgaa", sum := "68b3c8949135a6e3fdc75479790c3fd5cbab423c5d9342621b52a64050dc8ec4", func := "ostinato/ostinatolaw7.MacAlone", spec := "macAlone", apart := false, narrowed := true }
def MacAloneUptoSaid : Prop := macAloneUptoRow.holds Try.pinned (OpenSpec.upto macAloneSpec)

/-- 'ostinatolaw7.MacPassive', WHERE WHAT IT READS IS OF BULK AT MOST 1048576: true; the input reads as it did. -/
def macPassiveUptoRow : OpenClaim := { program := "ytgmjofcbdimjgaa", sum := "68b3c8949135a6e3fdc75479790c3fd5cbab423c5d9342621b52a64050dc8ec4", func := "ostinato/ostinatolaw7.MacPassive", spec := "macPassive", apart := false, narrowed := true }
def MacPassiveUptoSaid : Prop := macPassiveUptoRow.holds Try.pinned (OpenSpec.upto macPassiveSpec)

/-- 'ostinatolaw7.MacCancels', WHERE WHAT IT READS IS OF BULK AT MOST 1048576: true; the input reads as it did. -/
def macCancelsUptoRow : OpenClaim := { program := "ytgmjofcbdimjgaa", sum := "68b3c8949135a6e3fdc75479790c3fd5cbab423c5d9342621b52a64050dc8ec4", func := "ostinato/ostinatolaw7.MacCancels", spec := "macCancels", apart := false, narrowed := true }
def MacCancelsUptoSaid : Prop := macCancelsUptoRow.holds Try.pinned (OpenSpec.upto macCancelsSpec)

/-- 'ostinatolaw7.MacPlays', WHERE WHAT IT READS IS OF BULK AT MOST 1048576: true; the input reads as it did. -/
def macPlaysUptoRow : OpenClaim := { program := "ytgmjofcbdimjgaa", sum := "68b3c8949135a6e3fdc75479790c3fd5cbab423c5d9342621b52a64050dc8ec4", func := "ostinato/ostinatolaw7.MacPlays", spec := "macPlays", apart := false, narrowed := true }
def MacPlaysUptoSaid : Prop := macPlaysUptoRow.holds Try.pinned (OpenSpec.upto macPlaysSpec)

end Rows
end Go.Proofs.Ytgmjofcbdimjgaa
