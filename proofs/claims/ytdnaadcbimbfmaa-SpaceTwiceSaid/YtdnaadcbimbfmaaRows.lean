/-
  No cell of these rows narrows 'for every input' (looked for: loops, veiled, ifaces, maps, wideKeys, modest, calm, conditions, laid).
  DERIVED. THE GIVEN ROWS OF THIS SEAT. 3 by the template 'for every input the law returns true; each argument reads behind the call as it read before'; 0 by the template 'total and deterministic' (their statements: YtdnaadcbimbfmaaTotals.lean).
  GIVEN WITH THE SEED: the statements are not yours to turn. If you find one false, say at which input.
  Laid BY PROGRAM, IN A SANDBOX (cutbox-rows.mjs): the forced cells as the released guide's own fill.sh prints them over the translation 7e340d198caf440e… (all of the seat's roots in one cut). By AI agents, Wed Nov 11 2026. No macro, syntax, notation, axiom, sorry.
-/
import Derived.Test.YtdnaadcbimbfmaaChecked
import GoSem.Claim
import GoSem.ClaimJoined
import GoSem.ClaimMapViews
import Derived.JoinedTies
import Derived.KernelRfl
namespace Go.Proofs.Ytdnaadcbimbfmaa
/- THE CELL 'sum', in the pinned program and in every row, IS THE sha256 OF THE DUMP (.gsa) THAT YtdnaadcbimbfmaaProg.lean LOADS. Nothing in Lean hashes anything: it is a label: what it is worth is what the hold of that sum in a sandbox is worth. -/
noncomputable def Try.pinned : Pinned := { name := "ytdnaadcbimbfmaa", sum := "7e340d198caf440e27585e987519b7c3ace7bd8b4e48aeaa137e1af8a0b70b3b", checked := Try.checked }
namespace Rows
def none {H : Type} : Left H := { results := [], args := [] }

/-- 'polyphonylaw17.SpaceReady': WHATEVER THE INPUT: true; the input reads as it did. -/
def spaceReadySpec : ChangeSpec := { name := "spaceReady", fn := fun _ => fun
  | [d] => { results := [.lit (.bool true)], args := [d] }
  | _ => none }
def spaceReadyRow : OpenClaim := { program := "ytdnaadcbimbfmaa", sum := "7e340d198caf440e27585e987519b7c3ace7bd8b4e48aeaa137e1af8a0b70b3b", func := "polyphony/polyphonylaw17.SpaceReady", spec := "spaceReady", inPlace := ["slices.overlaps[polyphony/bag.Item[polyphony/space.tomb]]", "slices.overlaps[polyphony/bag.Item[polyphony/api.Event]]"], unfollowed := true, recurses := true, apart := false }
def SpaceReadySaid : Prop := spaceReadyRow.holds Try.pinned (OpenSpec.ofChange spaceReadySpec)

/-- ITS FALSE NEIGHBOUR: 'it returns false'. Refute it at one input. -/
def spaceReadyWrong : ChangeSpec := { name := "spaceReady", fn := fun _ => fun
  | [d] => { results := [.lit (.bool false)], args := [d] }
  | _ => none }
def SpaceReadyWrongFalsely : Prop := spaceReadyRow.holds Try.pinned (OpenSpec.ofChange spaceReadyWrong)

/-- 'polyphonylaw17.SpaceTwice': WHATEVER THE INPUT: true; the input reads as it did. -/
def spaceTwiceSpec : ChangeSpec := { name := "spaceTwice", fn := fun _ => fun
  | [d1, d2] => { results := [.lit (.bool true)], args := [d1, d2] }
  | _ => none }
def spaceTwiceRow : OpenClaim := { program := "ytdnaadcbimbfmaa", sum := "7e340d198caf440e27585e987519b7c3ace7bd8b4e48aeaa137e1af8a0b70b3b", func := "polyphony/polyphonylaw17.SpaceTwice", spec := "spaceTwice", inPlace := ["slices.overlaps[polyphony/bag.Item[polyphony/space.tomb]]", "slices.overlaps[polyphony/bag.Item[polyphony/api.Event]]"], unfollowed := true, recurses := true, apart := false }
def SpaceTwiceSaid : Prop := spaceTwiceRow.holds Try.pinned (OpenSpec.ofChange spaceTwiceSpec)

/-- ITS FALSE NEIGHBOUR: 'it returns false'. Refute it at one input. -/
def spaceTwiceWrong : ChangeSpec := { name := "spaceTwice", fn := fun _ => fun
  | [d1, d2] => { results := [.lit (.bool false)], args := [d1, d2] }
  | _ => none }
def SpaceTwiceWrongFalsely : Prop := spaceTwiceRow.holds Try.pinned (OpenSpec.ofChange spaceTwiceWrong)

/-- 'polyphonylaw17.SpaceDecodes': WHATEVER THE INPUT: true; the input reads as it did. -/
def spaceDecodesSpec : ChangeSpec := { name := "spaceDecodes", fn := fun _ => fun
  | [d] => { results := [.lit (.bool true)], args := [d] }
  | _ => none }
def spaceDecodesRow : OpenClaim := { program := "ytdnaadcbimbfmaa", sum := "7e340d198caf440e27585e987519b7c3ace7bd8b4e48aeaa137e1af8a0b70b3b", func := "polyphony/polyphonylaw17.SpaceDecodes", spec := "spaceDecodes", inPlace := ["slices.overlaps[polyphony/bag.Item[polyphony/space.tomb]]", "slices.overlaps[polyphony/bag.Item[polyphony/api.Event]]"], unfollowed := true, recurses := true, apart := false }
def SpaceDecodesSaid : Prop := spaceDecodesRow.holds Try.pinned (OpenSpec.ofChange spaceDecodesSpec)

/-- ITS FALSE NEIGHBOUR: 'it returns false'. Refute it at one input. -/
def spaceDecodesWrong : ChangeSpec := { name := "spaceDecodes", fn := fun _ => fun
  | [d] => { results := [.lit (.bool false)], args := [d] }
  | _ => none }
def SpaceDecodesWrongFalsely : Prop := spaceDecodesRow.holds Try.pinned (OpenSpec.ofChange spaceDecodesWrong)

/- THE SECOND FORM. 'bulk': how many values and letters a reading holds, each counted each time it is reached (what is shared counts as often as it is met; a slice's spare places count too). A statement '..UptoSaid' is the law's where the arguments, and the package variables that the reading takes, are together of bulk at most 1048576: NARROWER than '..Said'. Prove '..Said' where nothing that the law and all that it calls make is longer than what came in: it says more and counts as full. Else prove '..UptoSaid'. A law counts once. -/
mutual
def uptoBulk {H : Type} : DataW H → Nat
  | .lit (.string bytes) => bytes.length + 1
  | .lit _ => 1
  | .nil => 1
  | .ptr d => uptoBulk d + 1
  | .slice elems spare => uptoBulkAll elems + uptoBulkAll spare + 1
  | .agg parts => uptoBulkAll parts + 1
  | .iface _ d => uptoBulk d + 1
  | .map entries => uptoBulkEntries entries + 1
  | .held _ => 1
def uptoBulkAll {H : Type} : List (DataW H) → Nat
  | [] => 0
  | d :: r => uptoBulk d + uptoBulkAll r
def uptoBulkEntries {H : Type} : List (Lit × DataW H) → Nat
  | [] => 0
  | x :: r => uptoBulkEntry x + uptoBulkEntries r
def uptoBulkEntry {H : Type} : Lit × DataW H → Nat
  | (.string bytes, d) => bytes.length + uptoBulk d + 1
  | (_, d) => uptoBulk d + 1
 end
def uptoSmall : (H : Type) → List (DataW H) → Bool := fun _ ds => decide (uptoBulkAll ds ≤ 1048576)
def OpenSpec.upto (s : _root_.Go.ChangeSpec) : _root_.Go.OpenSpec := { _root_.Go.OpenSpec.ofChange s with cond := some uptoSmall }

/-- 'polyphonylaw17.SpaceReady', WHERE WHAT IT READS IS OF BULK AT MOST 1048576: true; the input reads as it did. -/
def spaceReadyUptoRow : OpenClaim := { program := "ytdnaadcbimbfmaa", sum := "7e340d198caf440e27585e987519b7c3ace7bd8b4e48aeaa137e1af8a0b70b3b", func := "polyphony/polyphonylaw17.SpaceReady", spec := "spaceReady", inPlace := ["slices.overlaps[polyphony/bag.Item[polyphony/space.tomb]]", "slices.overlaps[polyphony/bag.Item[polyphony/api.Event]]"], unfollowed := true, recurses := true, apart := false, narrowed := true }
def SpaceReadyUptoSaid : Prop := spaceReadyUptoRow.holds Try.pinned (OpenSpec.upto spaceReadySpec)

/-- 'polyphonylaw17.SpaceTwice', WHERE WHAT IT READS IS OF BULK AT MOST 1048576: true; the input reads as it did. -/
def spaceTwiceUptoRow : OpenClaim := { program := "ytdnaadcbimbfmaa", sum := "7e340d198caf440e27585e987519b7c3ace7bd8b4e48aeaa137e1af8a0b70b3b", func := "polyphony/polyphonylaw17.SpaceTwice", spec := "spaceTwice", inPlace := ["slices.overlaps[polyphony/bag.Item[polyphony/space.tomb]]", "slices.overlaps[polyphony/bag.Item[polyphony/api.Event]]"], unfollowed := true, recurses := true, apart := false, narrowed := true }
def SpaceTwiceUptoSaid : Prop := spaceTwiceUptoRow.holds Try.pinned (OpenSpec.upto spaceTwiceSpec)

/-- 'polyphonylaw17.SpaceDecodes', WHERE WHAT IT READS IS OF BULK AT MOST 1048576: true; the input reads as it did. -/
def spaceDecodesUptoRow : OpenClaim := { program := "ytdnaadcbimbfmaa", sum := "7e340d198caf440e27585e987519b7c3ace7bd8b4e48aeaa137e1af8a0b70b3b", func := "polyphony/polyphonylaw17.SpaceDecodes", spec := "spaceDecodes", inPlace := ["slices.overlaps[polyphony/bag.Item[polyphony/space.tomb]]", "slices.overlaps[polyphony/bag.Item[polyphony/api.Event]]"], unfollowed := true, recurses := true, apart := false, narrowed := true }
def SpaceDecodesUptoSaid : Prop := spaceDecodesUptoRow.holds Try.pinned (OpenSpec.upto spaceDecodesSpec)

end Rows
end Go.Proofs.Ytdnaadcbimbfmaa
