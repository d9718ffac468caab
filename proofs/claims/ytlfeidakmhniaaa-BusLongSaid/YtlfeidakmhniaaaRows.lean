/-
  No cell of these rows narrows 'for every input' (looked for: loops, veiled, ifaces, maps, wideKeys, modest, calm, conditions, laid).
  DERIVED. THE GIVEN ROWS OF THIS SEAT. 8 by the template 'for every input the law returns true; each argument reads behind the call as it read before'; 0 by the template 'total and deterministic' (their statements: YtlfeidakmhniaaaTotals.lean).
  GIVEN WITH THE SEED: the statements are not yours to turn. If you find one false, say at which input.
  Laid BY PROGRAM, IN A SANDBOX (cutbox-rows.mjs): the forced cells as the released guide's own fill.sh prints them over the translation 752039bdb8d90441… (all of the seat's roots in one cut). By AI agents, Wed Nov 11 2026. No macro, syntax, notation, axiom, sorry.
-/
import Derived.Test.YtlfeidakmhniaaaChecked
import GoSem.Claim
import GoSem.ClaimJoined
import GoSem.ClaimMapViews
import Derived.JoinedTies
import Derived.KernelRfl
namespace Go.Proofs.Ytlfeidakmhniaaa
/- THE CELL 'sum', in the pinned program and in every row, IS THE sha256 OF THE DUMP (.gsa) THAT YtlfeidakmhniaaaProg.lean LOADS. Nothing in Lean hashes anything: it is a label: what it is worth is what the hold of that sum in a sandbox is worth. -/
noncomputable def Try.pinned : Pinned := { name := "ytlfeidakmhniaaa", sum := "752039bdb8d904416a983b8b257c599d069cb903994aba437bd48f565aff15b6", checked := Try.checked }
namespace Rows
def none {H : Type} : Left H := { results := [], args := [] }

/-- 'ostinatolaw6.BusLong': WHATEVER THE INPUT: true; the input reads as it did. -/
def busLongSpec : ChangeSpec := { name := "busLong", fn := fun _ => fun
  | [d1, d2] => { results := [.lit (.bool true)], args := [d1, d2] }
  | _ => none }
def busLongRow : OpenClaim := { program := "ytlfeidakmhniaaa", sum := "752039bdb8d904416a983b8b257c599d069cb903994aba437bd48f565aff15b6", func := "ostinato/ostinatolaw6.BusLong", spec := "busLong", inPlace := ["internal/bytealg.IndexByteString"], apart := false }
def BusLongSaid : Prop := busLongRow.holds Try.pinned (OpenSpec.ofChange busLongSpec)

/-- ITS FALSE NEIGHBOUR: 'it returns false'. Refute it at one input. -/
def busLongWrong : ChangeSpec := { name := "busLong", fn := fun _ => fun
  | [d1, d2] => { results := [.lit (.bool false)], args := [d1, d2] }
  | _ => none }
def BusLongWrongFalsely : Prop := busLongRow.holds Try.pinned (OpenSpec.ofChange busLongWrong)

/-- 'ostinatolaw6.BusWins': WHATEVER THE INPUT: true; the input reads as it did. -/
def busWinsSpec : ChangeSpec := { name := "busWins", fn := fun _ => fun
  | [d1, d2, d3] => { results := [.lit (.bool true)], args := [d1, d2, d3] }
  | _ => none }
def busWinsRow : OpenClaim := { program := "ytlfeidakmhniaaa", sum := "752039bdb8d904416a983b8b257c599d069cb903994aba437bd48f565aff15b6", func := "ostinato/ostinatolaw6.BusWins", spec := "busWins", inPlace := ["internal/bytealg.IndexByteString"], apart := false }
def BusWinsSaid : Prop := busWinsRow.holds Try.pinned (OpenSpec.ofChange busWinsSpec)

/-- ITS FALSE NEIGHBOUR: 'it returns false'. Refute it at one input. -/
def busWinsWrong : ChangeSpec := { name := "busWins", fn := fun _ => fun
  | [d1, d2, d3] => { results := [.lit (.bool false)], args := [d1, d2, d3] }
  | _ => none }
def BusWinsWrongFalsely : Prop := busWinsRow.holds Try.pinned (OpenSpec.ofChange busWinsWrong)

/-- 'ostinatolaw5.ConfineTells': WHATEVER THE INPUT: true; the input reads as it did. -/
def confineTellsSpec : ChangeSpec := { name := "confineTells", fn := fun _ => fun
  | [d1, d2] => { results := [.lit (.bool true)], args := [d1, d2] }
  | _ => none }
def confineTellsRow : OpenClaim := { program := "ytlfeidakmhniaaa", sum := "752039bdb8d904416a983b8b257c599d069cb903994aba437bd48f565aff15b6", func := "ostinato/ostinatolaw5.ConfineTells", spec := "confineTells", apart := false }
def ConfineTellsSaid : Prop := confineTellsRow.holds Try.pinned (OpenSpec.ofChange confineTellsSpec)

/-- ITS FALSE NEIGHBOUR: 'it returns false'. Refute it at one input. -/
def confineTellsWrong : ChangeSpec := { name := "confineTells", fn := fun _ => fun
  | [d1, d2] => { results := [.lit (.bool false)], args := [d1, d2] }
  | _ => none }
def ConfineTellsWrongFalsely : Prop := confineTellsRow.holds Try.pinned (OpenSpec.ofChange confineTellsWrong)

/-- 'ostinatolaw5.ConfineRows': WHATEVER THE INPUT: true; the input reads as it did. -/
def confineRowsSpec : ChangeSpec := { name := "confineRows", fn := fun _ => fun
  | [d] => { results := [.lit (.bool true)], args := [d] }
  | _ => none }
def confineRowsRow : OpenClaim := { program := "ytlfeidakmhniaaa", sum := "752039bdb8d904416a983b8b257c599d069cb903994aba437bd48f565aff15b6", func := "ostinato/ostinatolaw5.ConfineRows", spec := "confineRows", apart := false }
def ConfineRowsSaid : Prop := confineRowsRow.holds Try.pinned (OpenSpec.ofChange confineRowsSpec)

/-- ITS FALSE NEIGHBOUR: 'it returns false'. Refute it at one input. -/
def confineRowsWrong : ChangeSpec := { name := "confineRows", fn := fun _ => fun
  | [d] => { results := [.lit (.bool false)], args := [d] }
  | _ => none }
def ConfineRowsWrongFalsely : Prop := confineRowsRow.holds Try.pinned (OpenSpec.ofChange confineRowsWrong)

/-- 'ostinatolaw5.ConfineBack': WHATEVER THE INPUT: true; the input reads as it did. -/
def confineBackSpec : ChangeSpec := { name := "confineBack", fn := fun _ => fun
  | [d] => { results := [.lit (.bool true)], args := [d] }
  | _ => none }
def confineBackRow : OpenClaim := { program := "ytlfeidakmhniaaa", sum := "752039bdb8d904416a983b8b257c599d069cb903994aba437bd48f565aff15b6", func := "ostinato/ostinatolaw5.ConfineBack", spec := "confineBack", apart := false }
def ConfineBackSaid : Prop := confineBackRow.holds Try.pinned (OpenSpec.ofChange confineBackSpec)

/-- ITS FALSE NEIGHBOUR: 'it returns false'. Refute it at one input. -/
def confineBackWrong : ChangeSpec := { name := "confineBack", fn := fun _ => fun
  | [d] => { results := [.lit (.bool false)], args := [d] }
  | _ => none }
def ConfineBackWrongFalsely : Prop := confineBackRow.holds Try.pinned (OpenSpec.ofChange confineBackWrong)

/-- 'ostinatolaw5.ConfineApart': WHATEVER THE INPUT: true; the input reads as it did. -/
def confineApartSpec : ChangeSpec := { name := "confineApart", fn := fun _ => fun
  | [d1, d2, d3] => { results := [.lit (.bool true)], args := [d1, d2, d3] }
  | _ => none }
def confineApartRow : OpenClaim := { program := "ytlfeidakmhniaaa", sum := "752039bdb8d904416a983b8b257c599d069cb903994aba437bd48f565aff15b6", func := "ostinato/ostinatolaw5.ConfineApart", spec := "confineApart", apart := false }
def ConfineApartSaid : Prop := confineApartRow.holds Try.pinned (OpenSpec.ofChange confineApartSpec)

/-- ITS FALSE NEIGHBOUR: 'it returns false'. Refute it at one input. -/
def confineApartWrong : ChangeSpec := { name := "confineApart", fn := fun _ => fun
  | [d1, d2, d3] => { results := [.lit (.bool false)], args := [d1, d2, d3] }
  | _ => none }
def ConfineApartWrongFalsely : Prop := confineApartRow.holds Try.pinned (OpenSpec.ofChange confineApartWrong)

/-- 'ostinatolaw6.BusPlays': WHATEVER THE INPUT: true; the input reads as it did. -/
def busPlaysSpec : ChangeSpec := { name := "busPlays", fn := fun _ => fun
  | [d1, d2] => { results := [.lit (.bool true)], args := [d1, d2] }
  | _ => none }
def busPlaysRow : OpenClaim := { program := "ytlfeidakmhniaaa", sum := "752039bdb8d904416a983b8b257c599d069cb903994aba437bd48f565aff15b6", func := "ostinato/ostinatolaw6.BusPlays", spec := "busPlays", inPlace := ["internal/bytealg.IndexByteString"], apart := false }
def BusPlaysSaid : Prop := busPlaysRow.holds Try.pinned (OpenSpec.ofChange busPlaysSpec)

/-- ITS FALSE NEIGHBOUR: 'it returns false'. Refute it at one input. -/
def busPlaysWrong : ChangeSpec := { name := "busPlays", fn := fun _ => fun
  | [d1, d2] => { results := [.lit (.bool false)], args := [d1, d2] }
  | _ => none }
def BusPlaysWrongFalsely : Prop := busPlaysRow.holds Try.pinned (OpenSpec.ofChange busPlaysWrong)

/-- 'ostinatolaw6.BusCopies': WHATEVER THE INPUT: true; the input reads as it did. -/
def busCopiesSpec : ChangeSpec := { name := "busCopies", fn := fun _ => fun
  | [d1, d2] => { results := [.lit (.bool true)], args := [d1, d2] }
  | _ => none }
def busCopiesRow : OpenClaim := { program := "ytlfeidakmhniaaa", sum := "752039bdb8d904416a983b8b257c599d069cb903994aba437bd48f565aff15b6", func := "ostinato/ostinatolaw6.BusCopies", spec := "busCopies", inPlace := ["internal/bytealg.IndexByteString"], apart := false }
def BusCopiesSaid : Prop := busCopiesRow.holds Try.pinned (OpenSpec.ofChange busCopiesSpec)

/-- ITS FALSE NEIGHBOUR: 'it returns false'. Refute it at one input. -/
def busCopiesWrong : ChangeSpec := { name := "busCopies", fn := fun _ => fun
  | [d1, d2] => { results := [.lit (.bool false)], args := [d1, d2] }
  | _ => none }
def BusCopiesWrongFalsely : Prop := busCopiesRow.holds Try.pinned (OpenSpec.ofChange busCopiesWrong)

/- THE SECOND FORM. 'bulk': how many values and letters a reading holds, each counted each time it is reached (what is shared counts as often as it is met; a slice's spare places count too). A statement '..UptoSaid' is the law's where the arguments, and the package variables that the reading takes, are together of bulk at most 1048576: NARROWER than '..Said'. Prove '..Said' where nothing that the law and all that it calls make is longer than what came in: it says more and counts as full. Else prove '..UptoSaid'. A law counts once. -/
mutual
def uptoBulk {H : Type} : DataW H → Nat
  | .lit (.string bytes) => bytes.length + 1
  | .lit _ => 1
  | .nil => 1
  | .ptr d => uptoBulk d + 1
  | .slice elems spare => uptoBulkAll elems + uptoBulkAll spare + 1
  | .agg parts => uptoBulkAll parts + 1
  | .iface _ d => uptoBulk d + 1
  | .map entries => uptoBulkEntries entries + 1
  | .held _ => 1
def uptoBulkAll {H : Type} : List (DataW H) → Nat
  | [] => 0
  | d :: r => uptoBulk d + uptoBulkAll r
def uptoBulkEntries {H : Type} : List (Lit × DataW H) → Nat
  | [] => 0
  | x :: r => uptoBulkEntry x + uptoBulkEntries r
def uptoBulkEntry {H : Type} : Lit × DataW H → Nat
  | (.string bytes, d) => bytes.length + uptoBulk d + 1
  | (_, d) => uptoBulk d + 1
 end
def uptoSmall : (H : Type) → List (DataW H) → Bool := fun _ ds => decide (uptoBulkAll ds ≤ 1048576)
def OpenSpec.upto (s : _root_.Go.ChangeSpec) : _root_.Go.OpenSpec := { _root_.Go.OpenSpec.ofChange s with cond := some uptoSmall }

/-- 'ostinatolaw6.BusLong', WHERE WHAT IT READS IS OF BULK AT MOST 1048576: true; the input reads as it did. -/
def busLongUptoRow : OpenClaim := { program := "ytlfeidakmhniaaa", sum := "752039bdb8d904416a983b8b257c599d069cb903994aba437bd48f565aff15b6", func := "ostinato/ostinatolaw6.BusLong", spec := "busLong", inPlace := ["internal/bytealg.IndexByteString"], apart := false, narrowed := true }
def BusLongUptoSaid : Prop := busLongUptoRow.holds Try.pinned (OpenSpec.upto busLongSpec)

/-- 'ostinatolaw6.BusWins', WHERE WHAT IT READS IS OF BULK AT MOST 1048576: true; the input reads as it did. -/
def busWinsUptoRow : OpenClaim := { program := "ytlfeidakmhniaaa", sum := "752039bdb8d904416a983b8b257c599d069cb903994aba437bd48f565aff15b6", func := "ostinato/ostinatolaw6.BusWins", spec := "busWins", inPlace := ["internal/bytealg.IndexByteString"], apart := false, narrowed := true }
def BusWinsUptoSaid : Prop := busWinsUptoRow.holds Try.pinned (OpenSpec.upto busWinsSpec)

/-- 'ostinatolaw5.ConfineTells', WHERE WHAT IT READS IS OF BULK AT MOST 1048576: true; the input reads as it did. -/
def confineTellsUptoRow : OpenClaim := { program := "ytlfeidakmhniaaa", sum := "752039bdb8d904416a983b8b257c599d069cb903994aba437bd48f565aff15b6", func := "ostinato/ostinatolaw5.ConfineTells", spec := "confineTells", apart := false, narrowed := true }
def ConfineTellsUptoSaid : Prop := confineTellsUptoRow.holds Try.pinned (OpenSpec.upto confineTellsSpec)

/-- 'ostinatolaw5.ConfineRows', WHERE WHAT IT READS IS OF BULK AT MOST 1048576: true; the input reads as it did. -/
def confineRowsUptoRow : OpenClaim := { program := "ytlfeidakmhniaaa", sum := "752039bdb8d904416a983b8b257c599d069cb903994aba437bd48f565aff15b6", func := "ostinato/ostinatolaw5.ConfineRows", spec := "confineRows", apart := false, narrowed := true }
def ConfineRowsUptoSaid : Prop := confineRowsUptoRow.holds Try.pinned (OpenSpec.upto confineRowsSpec)

/-- 'ostinatolaw5.ConfineBack', WHERE WHAT IT READS IS OF BULK AT MOST 1048576: true; the input reads as it did. -/
def confineBackUptoRow : OpenClaim := { program := "ytlfeidakmhniaaa", sum := "752039bdb8d904416a983b8b257c599d069cb903994aba437bd48f565aff15b6", func := "ostinato/ostinatolaw5.ConfineBack", spec := "confineBack", apart := false, narrowed := true }
def ConfineBackUptoSaid : Prop := confineBackUptoRow.holds Try.pinned (OpenSpec.upto confineBackSpec)

/-- 'ostinatolaw5.ConfineApart', WHERE WHAT IT READS IS OF BULK AT MOST 1048576: true; the input reads as it did. -/
def confineApartUptoRow : OpenClaim := { program := "ytlfeidakmhniaaa", sum := "752039bdb8d904416a983b8b257c599d069cb903994aba437bd48f565aff15b6", func := "ostinato/ostinatolaw5.ConfineApart", spec := "confineApart", apart := false, narrowed := true }
def ConfineApartUptoSaid : Prop := confineApartUptoRow.holds Try.pinned (OpenSpec.upto confineApartSpec)

/-- 'ostinatolaw6.BusPlays', WHERE WHAT IT READS IS OF BULK AT MOST 1048576: true; the input reads as it did. -/
def busPlaysUptoRow : OpenClaim := { program := "ytlfeidakmhniaaa", sum := "752039bdb8d904416a983b8b257c599d069cb903994aba437bd48f565aff15b6", func := "ostinato/ostinatolaw6.BusPlays", spec := "busPlays", inPlace := ["internal/bytealg.IndexByteString"], apart := false, narrowed := true }
def BusPlaysUptoSaid : Prop := busPlaysUptoRow.holds Try.pinned (OpenSpec.upto busPlaysSpec)

/-- 'ostinatolaw6.BusCopies', WHERE WHAT IT READS IS OF BULK AT MOST 1048576: true; the input reads as it did. -/
def busCopiesUptoRow : OpenClaim := { program := "ytlfeidakmhniaaa", sum := "752039bdb8d904416a983b8b257c599d069cb903994aba437bd48f565aff15b6", func := "ostinato/ostinatolaw6.BusCopies", spec := "busCopies", inPlace := ["internal/bytealg.IndexByteString"], apart := false, narrowed := true }
def BusCopiesUptoSaid : Prop := busCopiesUptoRow.holds Try.pinned (OpenSpec.upto busCopiesSpec)

end Rows
end Go.Proofs.Ytlfeidakmhniaaa
