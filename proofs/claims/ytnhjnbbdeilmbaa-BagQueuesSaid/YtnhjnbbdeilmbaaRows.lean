/-
  No cell of these rows narrows 'for every input' (looked for: loops, veiled, ifaces, maps, wideKeys, modest, calm, conditions, laid).
  DERIVED. THE GIVEN ROWS OF THIS SEAT. 5 by the template 'for every input the law returns true; each argument reads behind the call as it read before'; 0 by the template 'total and deterministic' (their statements: YtnhjnbbdeilmbaaTotals.lean).
  GIVEN WITH THE SEED: the statements are not yours to turn. If you find one false, say at which input.
  Laid BY PROGRAM, IN A SANDBOX (cutbox-rows.mjs): the forced cells as the released guide's own fill.sh prints them over the translation 1a6a86ca8b134dbf… (all of the seat's roots in one cut). By AI agents, Wed Nov 11 2026. No macro, syntax, notation, axiom, sorry.
-/
import Derived.Test.YtnhjnbbdeilmbaaChecked
import GoSem.Claim
import GoSem.ClaimJoined
import GoSem.ClaimMapViews
import Derived.JoinedTies
import Derived.KernelRfl
namespace Go.Proofs.Ytnhjnbbdeilmbaa
/- THE CELL 'sum', in the pinned program and in every row, IS THE sha256 OF THE DUMP (.gsa) THAT YtnhjnbbdeilmbaaProg.lean LOADS. Nothing in Lean hashes anything: it is a label: what it is worth is what the hold of that sum in a sandbox is worth. -/
noncomputable def Try.pinned : Pinned := { name := "ytnhjnbbdeilmbaa", sum := "1a6a86ca8b134dbf8e152350118b1d26ac9d6b6deb13be23a6ec56127ca12d41", checked := Try.checked }
namespace Rows
def none {H : Type} : Left H := { results := [], args := [] }

/-- 'delayslotlaw05.BagDrains': WHATEVER THE INPUT: true; the input reads as it did. -/
def bagDrainsSpec : ChangeSpec := { name := "bagDrains", fn := fun _ => fun
  | [d1, d2] => { results := [.lit (.bool true)], args := [d1, d2] }
  | _ => none }
def bagDrainsRow : OpenClaim := { program := "ytnhjnbbdeilmbaa", sum := "1a6a86ca8b134dbf8e152350118b1d26ac9d6b6deb13be23a6ec56127ca12d41", func := "delayslot/delayslotlaw05.BagDrains", spec := "bagDrains", apart := false }
def BagDrainsSaid : Prop := bagDrainsRow.holds Try.pinned (OpenSpec.ofChange bagDrainsSpec)

/-- ITS FALSE NEIGHBOUR: 'it returns false'. Refute it at one input. -/
def bagDrainsWrong : ChangeSpec := { name := "bagDrains", fn := fun _ => fun
  | [d1, d2] => { results := [.lit (.bool false)], args := [d1, d2] }
  | _ => none }
def BagDrainsWrongFalsely : Prop := bagDrainsRow.holds Try.pinned (OpenSpec.ofChange bagDrainsWrong)

/-- 'delayslotlaw05.BagTwice': WHATEVER THE INPUT: true; the input reads as it did. -/
def bagTwiceSpec : ChangeSpec := { name := "bagTwice", fn := fun _ => fun
  | [d] => { results := [.lit (.bool true)], args := [d] }
  | _ => none }
def bagTwiceRow : OpenClaim := { program := "ytnhjnbbdeilmbaa", sum := "1a6a86ca8b134dbf8e152350118b1d26ac9d6b6deb13be23a6ec56127ca12d41", func := "delayslot/delayslotlaw05.BagTwice", spec := "bagTwice", apart := false }
def BagTwiceSaid : Prop := bagTwiceRow.holds Try.pinned (OpenSpec.ofChange bagTwiceSpec)

/-- ITS FALSE NEIGHBOUR: 'it returns false'. Refute it at one input. -/
def bagTwiceWrong : ChangeSpec := { name := "bagTwice", fn := fun _ => fun
  | [d] => { results := [.lit (.bool false)], args := [d] }
  | _ => none }
def BagTwiceWrongFalsely : Prop := bagTwiceRow.holds Try.pinned (OpenSpec.ofChange bagTwiceWrong)

/-- 'delayslotlaw05.BagQueues': WHATEVER THE INPUT: true; the input reads as it did. -/
def bagQueuesSpec : ChangeSpec := { name := "bagQueues", fn := fun _ => fun
  | [d] => { results := [.lit (.bool true)], args := [d] }
  | _ => none }
def bagQueuesRow : OpenClaim := { program := "ytnhjnbbdeilmbaa", sum := "1a6a86ca8b134dbf8e152350118b1d26ac9d6b6deb13be23a6ec56127ca12d41", func := "delayslot/delayslotlaw05.BagQueues", spec := "bagQueues", unfollowed := true, recurses := true, apart := false }
def BagQueuesSaid : Prop := bagQueuesRow.holds Try.pinned (OpenSpec.ofChange bagQueuesSpec)

/-- ITS FALSE NEIGHBOUR: 'it returns false'. Refute it at one input. -/
def bagQueuesWrong : ChangeSpec := { name := "bagQueues", fn := fun _ => fun
  | [d] => { results := [.lit (.bool false)], args := [d] }
  | _ => none }
def BagQueuesWrongFalsely : Prop := bagQueuesRow.holds Try.pinned (OpenSpec.ofChange bagQueuesWrong)

/-- 'delayslotlaw05.BagSets': WHATEVER THE INPUT: true; the input reads as it did. -/
def bagSetsSpec : ChangeSpec := { name := "bagSets", fn := fun _ => fun
  | [d1, d2] => { results := [.lit (.bool true)], args := [d1, d2] }
  | _ => none }
def bagSetsRow : OpenClaim := { program := "ytnhjnbbdeilmbaa", sum := "1a6a86ca8b134dbf8e152350118b1d26ac9d6b6deb13be23a6ec56127ca12d41", func := "delayslot/delayslotlaw05.BagSets", spec := "bagSets", unfollowed := true, recurses := true, apart := false }
def BagSetsSaid : Prop := bagSetsRow.holds Try.pinned (OpenSpec.ofChange bagSetsSpec)

/-- ITS FALSE NEIGHBOUR: 'it returns false'. Refute it at one input. -/
def bagSetsWrong : ChangeSpec := { name := "bagSets", fn := fun _ => fun
  | [d1, d2] => { results := [.lit (.bool false)], args := [d1, d2] }
  | _ => none }
def BagSetsWrongFalsely : Prop := bagSetsRow.holds Try.pinned (OpenSpec.ofChange bagSetsWrong)

/-- 'delayslotlaw05.BagLeast': WHATEVER THE INPUT: true; the input reads as it did. -/
def bagLeastSpec : ChangeSpec := { name := "bagLeast", fn := fun _ => fun
  | [d] => { results := [.lit (.bool true)], args := [d] }
  | _ => none }
def bagLeastRow : OpenClaim := { program := "ytnhjnbbdeilmbaa", sum := "1a6a86ca8b134dbf8e152350118b1d26ac9d6b6deb13be23a6ec56127ca12d41", func := "delayslot/delayslotlaw05.BagLeast", spec := "bagLeast", unfollowed := true, recurses := true, apart := false }
def BagLeastSaid : Prop := bagLeastRow.holds Try.pinned (OpenSpec.ofChange bagLeastSpec)

/-- ITS FALSE NEIGHBOUR: 'it returns false'. Refute it at one input. -/
def bagLeastWrong : ChangeSpec := { name := "bagLeast", fn := fun _ => fun
  | [d] => { results := [.lit (.bool false)], args := [d] }
  | _ => none }
def BagLeastWrongFalsely : Prop := bagLeastRow.holds Try.pinned (OpenSpec.ofChange bagLeastWrong)

/- THE SECOND FORM. 'bulk': how many values and letters a reading holds, each counted each time it is reached (what is shared counts as often as it is met; a slice's spare places count too). A statement '..UptoSaid' is the law's where the arguments, and the package variables that the reading takes, are together of bulk at most 1048576: NARROWER than '..Said'. Prove '..Said' where nothing that the law and all that it calls make is longer than what came in: it says more and counts as full. Else prove '..UptoSaid'. A law counts once. -/
mutual
def uptoBulk {H : Type} : DataW H → Nat
  | .lit (.string bytes) => bytes.length + 1
  | .lit _ => 1
  | .nil => 1
  | .ptr d => uptoBulk d + 1
  | .slice elems spare => uptoBulkAll elems + uptoBulkAll spare + 1
  | .agg parts => uptoBulkAll parts + 1
  | .iface _ d => uptoBulk d + 1
  | .map entries => uptoBulkEntries entries + 1
  | .held _ => 1
def uptoBulkAll {H : Type} : List (DataW H) → Nat
  | [] => 0
  | d :: r => uptoBulk d + uptoBulkAll r
def uptoBulkEntries {H : Type} : List (Lit × DataW H) → Nat
  | [] => 0
  | x :: r => uptoBulkEntry x + uptoBulkEntries r
def uptoBulkEntry {H : Type} : Lit × DataW H → Nat
  | (.string bytes, d) => bytes.length + uptoBulk d + 1
  | (_, d) => uptoBulk d + 1
 end
def uptoSmall : (H : Type) → List (DataW H) → Bool := fun _ ds => decide (uptoBulkAll ds ≤ 1048576)
def OpenSpec.upto (s : _root_.Go.ChangeSpec) : _root_.Go.OpenSpec := { _root_.Go.OpenSpec.ofChange s with cond := some uptoSmall }

/-- 'delayslotlaw05.BagDrains', WHERE WHAT IT READS IS OF BULK AT MOST 1048576: true; the input reads as it did. -/
def bagDrainsUptoRow : OpenClaim := { program := "ytnhjnbbdeilmbaa", sum := "1a6a86ca8b134dbf8e152350118b1d26ac9d6b6deb13be23a6ec56127ca12d41", func := "delayslot/delayslotlaw05.BagDrains", spec := "bagDrains", apart := false, narrowed := true }
def BagDrainsUptoSaid : Prop := bagDrainsUptoRow.holds Try.pinned (OpenSpec.upto bagDrainsSpec)

/-- 'delayslotlaw05.BagTwice', WHERE WHAT IT READS IS OF BULK AT MOST 1048576: true; the input reads as it did. -/
def bagTwiceUptoRow : OpenClaim := { program := "ytnhjnbbdeilmbaa", sum := "1a6a86ca8b134dbf8e152350118b1d26ac9d6b6deb13be23a6ec56127ca12d41", func := "delayslot/delayslotlaw05.BagTwice", spec := "bagTwice", apart := false, narrowed := true }
def BagTwiceUptoSaid : Prop := bagTwiceUptoRow.holds Try.pinned (OpenSpec.upto bagTwiceSpec)

/-- 'delayslotlaw05.BagQueues', WHERE WHAT IT READS IS OF BULK AT MOST 1048576: true; the input reads as it did. -/
def bagQueuesUptoRow : OpenClaim := { program := "ytnhjnbbdeilmbaa", sum := "1a6a86ca8b134dbf8e152350118b1d26ac9d6b6deb13be23a6ec56127ca12d41", func := "delayslot/delayslotlaw05.BagQueues", spec := "bagQueues", unfollowed := true, recurses := true, apart := false, narrowed := true }
def BagQueuesUptoSaid : Prop := bagQueuesUptoRow.holds Try.pinned (OpenSpec.upto bagQueuesSpec)

/-- 'delayslotlaw05.BagSets', WHERE WHAT IT READS IS OF BULK AT MOST 1048576: true; the input reads as it did. -/
def bagSetsUptoRow : OpenClaim := { program := "ytnhjnbbdeilmbaa", sum := "1a6a86ca8b134dbf8e152350118b1d26ac9d6b6deb13be23a6ec56127ca12d41", func := "delayslot/delayslotlaw05.BagSets", spec := "bagSets", unfollowed := true, recurses := true, apart := false, narrowed := true }
def BagSetsUptoSaid : Prop := bagSetsUptoRow.holds Try.pinned (OpenSpec.upto bagSetsSpec)

/-- 'delayslotlaw05.BagLeast', WHERE WHAT IT READS IS OF BULK AT MOST 1048576: true; the input reads as it did. -/
def bagLeastUptoRow : OpenClaim := { program := "ytnhjnbbdeilmbaa", sum := "1a6a86ca8b134dbf8e152350118b1d26ac9d6b6deb13be23a6ec56127ca12d41", func := "delayslot/delayslotlaw05.BagLeast", spec := "bagLeast", unfollowed := true, recurses := true, apart := false, narrowed := true }
def BagLeastUptoSaid : Prop := bagLeastUptoRow.holds Try.pinned (OpenSpec.upto bagLeastSpec)

end Rows
end Go.Proofs.Ytnhjnbbdeilmbaa
