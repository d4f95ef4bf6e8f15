/-
  No cell of these rows narrows 'for every input' (looked for: loops, veiled, ifaces, maps, wideKeys, modest, calm, conditions, laid).
  DERIVED. THE GIVEN ROWS OF THIS SEAT. 4 by the template 'for every input the law returns true; each argument reads behind the call as it read before'; 0 by the template 'total and deterministic' (their statements: YtdhdhcllgkddnaaTotals.lean).
  GIVEN WITH THE SEED: the statements are not yours to turn. If you find one false, say at which input.
  Laid BY PROGRAM, IN A SANDBOX (cutbox-rows.mjs): the forced cells as the released guide's own fill.sh prints them over the translation 8bb0aafd40960d0d… (all of the seat's roots in one cut). By AI agents, Wed Nov 11 2026. No macro, syntax, notation, axiom, sorry.
-/
import Derived.Test.YtdhdhcllgkddnaaChecked
import GoSem.Claim
import GoSem.ClaimJoined
import GoSem.ClaimMapViews
import Derived.JoinedTies
import Derived.KernelRfl
namespace Go.Proofs.Ytdhdhcllgkddnaa
/- THE CELL 'sum', in the pinned program and in every row, IS THE sha256 OF THE DUMP (.gsa) THAT YtdhdhcllgkddnaaProg.lean LOADS. Nothing in Lean hashes anything: it is a label: what it is worth is what the hold of that sum in a sandbox is worth. -/
noncomputable def Try.pinned : Pinned := { name := "ytdhdhcllgkddnaa", sum := "8bb0aafd40960d0df7c39c81de34283182a71beb36a90691a87d405115f9eadc", checked := Try.checked }
namespace Rows
def none {H : Type} : Left H := { results := [], args := [] }

/-- 'flagstonelaw31.ColumnInts': WHATEVER THE INPUT: true; the input reads as it did. -/
def columnIntsSpec : ChangeSpec := { name := "columnInts", fn := fun _ => fun
  | [d1, d2, d3] => { results := [.lit (.bool true)], args := [d1, d2, d3] }
  | _ => none }
def columnIntsRow : OpenClaim := { program := "ytdhdhcllgkddnaa", sum := "8bb0aafd40960d0df7c39c81de34283182a71beb36a90691a87d405115f9eadc", func := "flagstone/flagstonelaw31.ColumnInts", spec := "columnInts", unfollowed := true, recurses := true, apart := false }
def ColumnIntsSaid : Prop := columnIntsRow.holds Try.pinned (OpenSpec.ofChange columnIntsSpec)

/-- ITS FALSE NEIGHBOUR: 'it returns false'. Refute it at one input. -/
def columnIntsWrong : ChangeSpec := { name := "columnInts", fn := fun _ => fun
  | [d1, d2, d3] => { results := [.lit (.bool false)], args := [d1, d2, d3] }
  | _ => none }
def ColumnIntsWrongFalsely : Prop := columnIntsRow.holds Try.pinned (OpenSpec.ofChange columnIntsWrong)

/-- 'flagstonelaw31.ColumnShort': WHATEVER THE INPUT: true; the input reads as it did. -/
def columnShortSpec : ChangeSpec := { name := "columnShort", fn := fun _ => fun
  | [d1, d2, d3, d4] => { results := [.lit (.bool true)], args := [d1, d2, d3, d4] }
  | _ => none }
def columnShortRow : OpenClaim := { program := "ytdhdhcllgkddnaa", sum := "8bb0aafd40960d0df7c39c81de34283182a71beb36a90691a87d405115f9eadc", func := "flagstone/flagstonelaw31.ColumnShort", spec := "columnShort", unfollowed := true, recurses := true, apart := false }
def ColumnShortSaid : Prop := columnShortRow.holds Try.pinned (OpenSpec.ofChange columnShortSpec)

/-- ITS FALSE NEIGHBOUR: 'it returns false'. Refute it at one input. -/
def columnShortWrong : ChangeSpec := { name := "columnShort", fn := fun _ => fun
  | [d1, d2, d3, d4] => { results := [.lit (.bool false)], args := [d1, d2, d3, d4] }
  | _ => none }
def ColumnShortWrongFalsely : Prop := columnShortRow.holds Try.pinned (OpenSpec.ofChange columnShortWrong)

/-- 'flagstonelaw31.ColumnReads': WHATEVER THE INPUT: true; the input reads as it did. -/
def columnReadsSpec : ChangeSpec := { name := "columnReads", fn := fun _ => fun
  | [d1, d2, d3, d4, d5, d6] => { results := [.lit (.bool true)], args := [d1, d2, d3, d4, d5, d6] }
  | _ => none }
def columnReadsRow : OpenClaim := { program := "ytdhdhcllgkddnaa", sum := "8bb0aafd40960d0df7c39c81de34283182a71beb36a90691a87d405115f9eadc", func := "flagstone/flagstonelaw31.ColumnReads", spec := "columnReads", unfollowed := true, recurses := true, apart := false }
def ColumnReadsSaid : Prop := columnReadsRow.holds Try.pinned (OpenSpec.ofChange columnReadsSpec)

/-- ITS FALSE NEIGHBOUR: 'it returns false'. Refute it at one input. -/
def columnReadsWrong : ChangeSpec := { name := "columnReads", fn := fun _ => fun
  | [d1, d2, d3, d4, d5, d6] => { results := [.lit (.bool false)], args := [d1, d2, d3, d4, d5, d6] }
  | _ => none }
def ColumnReadsWrongFalsely : Prop := columnReadsRow.holds Try.pinned (OpenSpec.ofChange columnReadsWrong)

/-- 'flagstonelaw31.ColumnRoundTrip': WHATEVER THE INPUT: true; the input reads as it did. -/
def columnRoundTripSpec : ChangeSpec := { name := "columnRoundTrip", fn := fun _ => fun
  | [d1, d2, d3, d4] => { results := [.lit (.bool true)], args := [d1, d2, d3, d4] }
  | _ => none }
def columnRoundTripRow : OpenClaim := { program := "ytdhdhcllgkddnaa", sum := "8bb0aafd40960d0df7c39c81de34283182a71beb36a90691a87d405115f9eadc", func := "flagstone/flagstonelaw31.ColumnRoundTrip", spec := "columnRoundTrip", unfollowed := true, recurses := true, apart := false }
def ColumnRoundTripSaid : Prop := columnRoundTripRow.holds Try.pinned (OpenSpec.ofChange columnRoundTripSpec)

/-- ITS FALSE NEIGHBOUR: 'it returns false'. Refute it at one input. -/
def columnRoundTripWrong : ChangeSpec := { name := "columnRoundTrip", fn := fun _ => fun
  | [d1, d2, d3, d4] => { results := [.lit (.bool false)], args := [d1, d2, d3, d4] }
  | _ => none }
def ColumnRoundTripWrongFalsely : Prop := columnRoundTripRow.holds Try.pinned (OpenSpec.ofChange columnRoundTripWrong)

/- THE SECOND FORM. 'bulk': how many values and letters a reading holds, each counted each time it is reached (what is shared counts as often as it is met; a slice's spare places count too). A statement '..UptoSaid' is the law's where the arguments, and the package variables that the reading takes, are together of bulk at most 1048576: NARROWER than '..Said'. Prove '..Said' where nothing that the law and all that it calls make is longer than what came in: it says more and counts as full. Else prove '..UptoSaid'. A law counts once. -/
mutual
def uptoBulk {H : Type} : DataW H → Nat
  | .lit (.string bytes) => bytes.length + 1
  | .lit _ => 1
  | .nil => 1
  | .ptr d => uptoBulk d + 1
  | .slice elems spare => uptoBulkAll elems + uptoBulkAll spare + 1
  | .agg parts => uptoBulkAll parts + 1
  | .iface _ d => uptoBulk d + 1
  | .map entries => uptoBulkEntries entries + 1
  | .held _ => 1
def uptoBulkAll {H : Type} : List (DataW H) → Nat
  | [] => 0
  | d :: r => uptoBulk d + uptoBulkAll r
def uptoBulkEntries {H : Type} : List (Lit × DataW H) → Nat
  | [] => 0
  | x :: r => uptoBulkEntry x + uptoBulkEntries r
def uptoBulkEntry {H : Type} : Lit × DataW H → Nat
  | (.string bytes, d) => bytes.length + uptoBulk d + 1
  | (_, d) => uptoBulk d + 1
 end
def uptoSmall : (H : Type) → List (DataW H) → Bool := fun _ ds => decide (uptoBulkAll ds ≤ 1048576)
def OpenSpec.upto (s : _root_.Go.ChangeSpec) : _root_.Go.OpenSpec := { _root_.Go.OpenSpec.ofChange s with cond := some uptoSmall }

/-- 'flagstonelaw31.ColumnInts', WHERE WHAT IT READS IS OF BULK AT MOST 1048576: true; the input reads as it did. -/
def columnIntsUptoRow : OpenClaim := { program := "ytdhdhcllgkddnaa", sum := "8bb0aafd40960d0df7c39c81de34283182a71beb36a90691a87d405115f9eadc", func := "flagstone/flagstonelaw31.ColumnInts", spec := "columnInts", unfollowed := true, recurses := true, apart := false, narrowed := true }
def ColumnIntsUptoSaid : Prop := columnIntsUptoRow.holds Try.pinned (OpenSpec.upto columnIntsSpec)

/-- 'flagstonelaw31.ColumnShort', WHERE WHAT IT READS IS OF BULK AT MOST 1048576: true; the input reads as it did. -/
def columnShortUptoRow : OpenClaim := { program := "ytdhdhcllgkddnaa", sum := "8bb0aafd40960d0df7c39c81de34283182a71beb36a90691a87d405115f9eadc", func := "flagstone/flagstonelaw31.ColumnShort", spec := "columnShort", unfollowed := true, recurses := true, apart := false, narrowed := true }
def ColumnShortUptoSaid : Prop := columnShortUptoRow.holds Try.pinned (OpenSpec.upto columnShortSpec)

/-- 'flagstonelaw31.ColumnReads', WHERE WHAT IT READS IS OF BULK AT MOST 1048576: true; the input reads as it did. -/
def columnReadsUptoRow : OpenClaim := { program := "ytdhdhcllgkddnaa", sum := "8bb0aafd40960d0df7c39c81de34283182a71beb36a90691a87d405115f9eadc", func := "flagstone/flagstonelaw31.ColumnReads", spec := "columnReads", unfollowed := true, recurses := true, apart := false, narrowed := true }
def ColumnReadsUptoSaid : Prop := columnReadsUptoRow.holds Try.pinned (OpenSpec.upto columnReadsSpec)

/-- 'flagstonelaw31.ColumnRoundTrip', WHERE WHAT IT READS IS OF BULK AT MOST 1048576: true; the input reads as it did. -/
def columnRoundTripUptoRow : OpenClaim := { program := "ytdhdhcllgkddnaa", sum := "8bb0aafd40960d0df7c39c81de34283182a71beb36a90691a87d405115f9eadc", func := "flagstone/flagstonelaw31.ColumnRoundTrip", spec := "columnRoundTrip", unfollowed := true, recurses := true, apart := false, narrowed := true }
def ColumnRoundTripUptoSaid : Prop := columnRoundTripUptoRow.holds Try.pinned (OpenSpec.upto columnRoundTripSpec)

end Rows
end Go.Proofs.Ytdhdhcllgkddnaa
