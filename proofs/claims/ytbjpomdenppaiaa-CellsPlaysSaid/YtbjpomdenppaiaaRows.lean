/-
  No cell of these rows narrows 'for every input' (looked for: loops, veiled, ifaces, maps, wideKeys, modest, calm, conditions, laid).
  DERIVED. THE GIVEN ROWS OF THIS SEAT. 6 by the template 'for every input the law returns true; each argument reads behind the call as it read before'; 0 by the template 'total and deterministic' (their statements: YtbjpomdenppaiaaTotals.lean).
  GIVEN WITH THE SEED: the statements are not yours to turn. If you find one false, say at which input.
  Laid BY PROGRAM, IN A SANDBOX (cutbox-rows.mjs): the forced cells as the released guide's own fill.sh prints them over the translation a069e411ae2a1c13… (all of the seat's roots in one cut). By AI agents, Wed Nov 11 2026. No macro, syntax, notation, axiom, sorry.
-/
import Derived.Test.YtbjpomdenppaiaaChecked
import GoSem.Claim
import GoSem.ClaimJoined
import GoSem.ClaimMapViews
import Derived.JoinedTies
import Derived.KernelRfl
namespace Go.Proofs.Ytbjpomdenppaiaa
/- THE CELL 'sum', in the pinned program and in every row, IS THE sha256 OF THE DUMP (.gsa) THAT YtbjpomdenppaiaaProg.lean LOADS. Nothing in Lean hashes anything: it is a label: what it is worth is what the hold of that sum in a sandbox is worth. -/
noncomputable def Try.pinned : Pinned := { name := "ytbjpomdenppaiaa", sum := "a069e411ae2a1c1377325f65c28525c219491a909780a3ea9937f31019385885", checked := Try.checked }
namespace Rows
def none {H : Type} : Left H := { results := [], args := [] }

/-- 'delayslotlaw06.CellsPlays': WHATEVER THE INPUT: true; the input reads as it did. -/
def cellsPlaysSpec : ChangeSpec := { name := "cellsPlays", fn := fun _ => fun
  | [d1, d2, d3] => { results := [.lit (.bool true)], args := [d1, d2, d3] }
  | _ => none }
def cellsPlaysRow : OpenClaim := { program := "ytbjpomdenppaiaa", sum := "a069e411ae2a1c1377325f65c28525c219491a909780a3ea9937f31019385885", func := "delayslot/delayslotlaw06.CellsPlays", spec := "cellsPlays", apart := false }
def CellsPlaysSaid : Prop := cellsPlaysRow.holds Try.pinned (OpenSpec.ofChange cellsPlaysSpec)

/-- ITS FALSE NEIGHBOUR: 'it returns false'. Refute it at one input. -/
def cellsPlaysWrong : ChangeSpec := { name := "cellsPlays", fn := fun _ => fun
  | [d1, d2, d3] => { results := [.lit (.bool false)], args := [d1, d2, d3] }
  | _ => none }
def CellsPlaysWrongFalsely : Prop := cellsPlaysRow.holds Try.pinned (OpenSpec.ofChange cellsPlaysWrong)

/-- 'delayslotlaw06.CellsLast': WHATEVER THE INPUT: true; the input reads as it did. -/
def cellsLastSpec : ChangeSpec := { name := "cellsLast", fn := fun _ => fun
  | [d1, d2, d3, d4, d5] => { results := [.lit (.bool true)], args := [d1, d2, d3, d4, d5] }
  | _ => none }
def cellsLastRow : OpenClaim := { program := "ytbjpomdenppaiaa", sum := "a069e411ae2a1c1377325f65c28525c219491a909780a3ea9937f31019385885", func := "delayslot/delayslotlaw06.CellsLast", spec := "cellsLast", apart := false }
def CellsLastSaid : Prop := cellsLastRow.holds Try.pinned (OpenSpec.ofChange cellsLastSpec)

/-- ITS FALSE NEIGHBOUR: 'it returns false'. Refute it at one input. -/
def cellsLastWrong : ChangeSpec := { name := "cellsLast", fn := fun _ => fun
  | [d1, d2, d3, d4, d5] => { results := [.lit (.bool false)], args := [d1, d2, d3, d4, d5] }
  | _ => none }
def CellsLastWrongFalsely : Prop := cellsLastRow.holds Try.pinned (OpenSpec.ofChange cellsLastWrong)

/-- 'delayslotlaw06.CellsNone': WHATEVER THE INPUT: true; the input reads as it did. -/
def cellsNoneSpec : ChangeSpec := { name := "cellsNone", fn := fun _ => fun
  | [d1, d2] => { results := [.lit (.bool true)], args := [d1, d2] }
  | _ => none }
def cellsNoneRow : OpenClaim := { program := "ytbjpomdenppaiaa", sum := "a069e411ae2a1c1377325f65c28525c219491a909780a3ea9937f31019385885", func := "delayslot/delayslotlaw06.CellsNone", spec := "cellsNone", apart := false }
def CellsNoneSaid : Prop := cellsNoneRow.holds Try.pinned (OpenSpec.ofChange cellsNoneSpec)

/-- ITS FALSE NEIGHBOUR: 'it returns false'. Refute it at one input. -/
def cellsNoneWrong : ChangeSpec := { name := "cellsNone", fn := fun _ => fun
  | [d1, d2] => { results := [.lit (.bool false)], args := [d1, d2] }
  | _ => none }
def CellsNoneWrongFalsely : Prop := cellsNoneRow.holds Try.pinned (OpenSpec.ofChange cellsNoneWrong)

/-- 'delayslotlaw06.CellsUsed': WHATEVER THE INPUT: true; the input reads as it did. -/
def cellsUsedSpec : ChangeSpec := { name := "cellsUsed", fn := fun _ => fun
  | [d1, d2] => { results := [.lit (.bool true)], args := [d1, d2] }
  | _ => none }
def cellsUsedRow : OpenClaim := { program := "ytbjpomdenppaiaa", sum := "a069e411ae2a1c1377325f65c28525c219491a909780a3ea9937f31019385885", func := "delayslot/delayslotlaw06.CellsUsed", spec := "cellsUsed", apart := false }
def CellsUsedSaid : Prop := cellsUsedRow.holds Try.pinned (OpenSpec.ofChange cellsUsedSpec)

/-- ITS FALSE NEIGHBOUR: 'it returns false'. Refute it at one input. -/
def cellsUsedWrong : ChangeSpec := { name := "cellsUsed", fn := fun _ => fun
  | [d1, d2] => { results := [.lit (.bool false)], args := [d1, d2] }
  | _ => none }
def CellsUsedWrongFalsely : Prop := cellsUsedRow.holds Try.pinned (OpenSpec.ofChange cellsUsedWrong)

/-- 'delayslotlaw06.CellsOwn': WHATEVER THE INPUT: true; the input reads as it did. -/
def cellsOwnSpec : ChangeSpec := { name := "cellsOwn", fn := fun _ => fun
  | [d1, d2, d3] => { results := [.lit (.bool true)], args := [d1, d2, d3] }
  | _ => none }
def cellsOwnRow : OpenClaim := { program := "ytbjpomdenppaiaa", sum := "a069e411ae2a1c1377325f65c28525c219491a909780a3ea9937f31019385885", func := "delayslot/delayslotlaw06.CellsOwn", spec := "cellsOwn", apart := false }
def CellsOwnSaid : Prop := cellsOwnRow.holds Try.pinned (OpenSpec.ofChange cellsOwnSpec)

/-- ITS FALSE NEIGHBOUR: 'it returns false'. Refute it at one input. -/
def cellsOwnWrong : ChangeSpec := { name := "cellsOwn", fn := fun _ => fun
  | [d1, d2, d3] => { results := [.lit (.bool false)], args := [d1, d2, d3] }
  | _ => none }
def CellsOwnWrongFalsely : Prop := cellsOwnRow.holds Try.pinned (OpenSpec.ofChange cellsOwnWrong)

/-- 'delayslotlaw06.CellsMany': WHATEVER THE INPUT: true; the input reads as it did. -/
def cellsManySpec : ChangeSpec := { name := "cellsMany", fn := fun _ => fun
  | [d] => { results := [.lit (.bool true)], args := [d] }
  | _ => none }
def cellsManyRow : OpenClaim := { program := "ytbjpomdenppaiaa", sum := "a069e411ae2a1c1377325f65c28525c219491a909780a3ea9937f31019385885", func := "delayslot/delayslotlaw06.CellsMany", spec := "cellsMany", apart := false }
def CellsManySaid : Prop := cellsManyRow.holds Try.pinned (OpenSpec.ofChange cellsManySpec)

/-- ITS FALSE NEIGHBOUR: 'it returns false'. Refute it at one input. -/
def cellsManyWrong : ChangeSpec := { name := "cellsMany", fn := fun _ => fun
  | [d] => { results := [.lit (.bool false)], args := [d] }
  | _ => none }
def CellsManyWrongFalsely : Prop := cellsManyRow.holds Try.pinned (OpenSpec.ofChange cellsManyWrong)

/- THE SECOND FORM. 'bulk': how many values and letters a reading holds, each counted each time it is reached (what is shared counts as often as it is met; a slice's spare places count too). A statement '..UptoSaid' is the law's where the arguments, and the package variables that the reading takes, are together of bulk at most 1048576: NARROWER than '..Said'. Prove '..Said' where nothing that the law and all that it calls make is longer than what came in: it says more and counts as full. Else prove '..UptoSaid'. A law counts once. -/
mutual
def uptoBulk {H : Type} : DataW H → Nat
  | .lit (.string bytes) => bytes.length + 1
  | .lit _ => 1
  | .nil => 1
  | .ptr d => uptoBulk d + 1
  | .slice elems spare => uptoBulkAll elems + uptoBulkAll spare + 1
  | .agg parts => uptoBulkAll parts + 1
  | .iface _ d => uptoBulk d + 1
  | .map entries => uptoBulkEntries entries + 1
  | .held _ => 1
def uptoBulkAll {H : Type} : List (DataW H) → Nat
  | [] => 0
  | d :: r => uptoBulk d + uptoBulkAll r
def uptoBulkEntries {H : Type} : List (Lit × DataW H) → Nat
  | [] => 0
  | x :: r => uptoBulkEntry x + uptoBulkEntries r
def uptoBulkEntry {H : Type} : Lit × DataW H → Nat
  | (.string bytes, d) => bytes.length + uptoBulk d + 1
  | (_, d) => uptoBulk d + 1
 end
def uptoSmall : (H : Type) → List (DataW H) → Bool := fun _ ds => decide (uptoBulkAll ds ≤ 1048576)
def OpenSpec.upto (s : _root_.Go.ChangeSpec) : _root_.Go.OpenSpec := { _root_.Go.OpenSpec.ofChange s with cond := some uptoSmall }

/-- 'delayslotlaw06.CellsPlays', WHERE WHAT IT READS IS OF BULK AT MOST 1048576: true; the input reads as it did. -/
def cellsPlaysUptoRow : OpenClaim := { program := "ytbjpomdenppaiaa", sum := "a069e411ae2a1c1377325f65c28525c219491a909780a3ea9937f31019385885", func := "delayslot/delayslotlaw06.CellsPlays", spec := "cellsPlays", apart := false, narrowed := true }
def CellsPlaysUptoSaid : Prop := cellsPlaysUptoRow.holds Try.pinned (OpenSpec.upto cellsPlaysSpec)

/-- 'delayslotlaw06.CellsLast', WHERE WHAT IT READS IS OF BULK AT MOST 1048576: true; the input reads as it did. -/
def cellsLastUptoRow : OpenClaim := { program := "ytbjpomdenppaiaa", sum := "a069e411ae2a1c1377325f65c28525c219491a909780a3ea9937f31019385885", func := "delayslot/delayslotlaw06.CellsLast", spec := "cellsLast", apart := false, narrowed := true }
def CellsLastUptoSaid : Prop := cellsLastUptoRow.holds Try.pinned (OpenSpec.upto cellsLastSpec)

/-- 'delayslotlaw06.CellsNone', WHERE WHAT IT READS IS OF BULK AT MOST 1048576: true; the input reads as it did. -/
def cellsNoneUptoRow : OpenClaim := { program := "ytbjpomdenppaiaa", sum := "a069e411ae2a1c1377325f65c28525c219491a909780a3ea9937f31019385885", func := "delayslot/delayslotlaw06.CellsNone", spec := "cellsNone", apart := false, narrowed := true }
def CellsNoneUptoSaid : Prop := cellsNoneUptoRow.holds Try.pinned (OpenSpec.upto cellsNoneSpec)

/-- 'delayslotlaw06.CellsUsed', WHERE WHAT IT READS IS OF BULK AT MOST 1048576: true; the input reads as it did. -/
def cellsUsedUptoRow : OpenClaim := { program := "ytbjpomdenppaiaa", sum := "a069e411ae2a1c1377325f65c28525c219491a909780a3ea9937f31019385885", func := "delayslot/delayslotlaw06.CellsUsed", spec := "cellsUsed", apart := false, narrowed := true }
def CellsUsedUptoSaid : Prop := cellsUsedUptoRow.holds Try.pinned (OpenSpec.upto cellsUsedSpec)

/-- 'delayslotlaw06.CellsOwn', WHERE WHAT IT READS IS OF BULK AT MOST 1048576: true; the input reads as it did. -/
def cellsOwnUptoRow : OpenClaim := { program := "ytbjpomdenppaiaa", sum := "a069e411ae2a1c1377325f65c28525c219491a909780a3ea9937f31019385885", func := "delayslot/delayslotlaw06.CellsOwn", spec := "cellsOwn", apart := false, narrowed := true }
def CellsOwnUptoSaid : Prop := cellsOwnUptoRow.holds Try.pinned (OpenSpec.upto cellsOwnSpec)

/-- 'delayslotlaw06.CellsMany', WHERE WHAT IT READS IS OF BULK AT MOST 1048576: true; the input reads as it did. -/
def cellsManyUptoRow : OpenClaim := { program := "ytbjpomdenppaiaa", sum := "a069e411ae2a1c1377325f65c28525c219491a909780a3ea9937f31019385885", func := "delayslot/delayslotlaw06.CellsMany", spec := "cellsMany", apart := false, narrowed := true }
def CellsManyUptoSaid : Prop := cellsManyUptoRow.holds Try.pinned (OpenSpec.upto cellsManySpec)

end Rows
end Go.Proofs.Ytbjpomdenppaiaa
