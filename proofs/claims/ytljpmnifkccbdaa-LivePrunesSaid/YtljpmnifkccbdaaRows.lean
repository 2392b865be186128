/-
  No cell of these rows narrows 'for every input' (looked for: loops, veiled, ifaces, maps, wideKeys, modest, calm, conditions, laid).
  DERIVED. THE GIVEN ROWS OF THIS SEAT. 12 by the template 'for every input the law returns true; each argument reads behind the call as it read before'; 0 by the template 'total and deterministic' (their statements: YtljpmnifkccbdaaTotals.lean).
  GIVEN WITH THE SEED: the statements are not yours to turn. If you find one false, say at which input.
  Laid BY PROGRAM, IN A SANDBOX (cutbox-rows.mjs): the forced cells as the released guide's own fill.sh prints them over the translation 8f630845a73bfc18… (all of the seat's roots in one cut). By AI agents, Wed Nov 11 2026. No macro, syntax, notation, axiom, sorry.
-/
import Derived.Test.YtljpmnifkccbdaaChecked
import GoSem.Claim
import GoSem.ClaimJoined
import GoSem.ClaimMapViews
import Derived.JoinedTies
import Derived.KernelRfl
namespace Go.Proofs.Ytljpmnifkccbdaa
/- THE CELL 'sum', in the pinned program and in every row, IS THE sha256 OF THE DUMP (.gsa) THAT YtljpmnifkccbdaaProg.lean LOADS. Nothing in Lean hashes anything: it is a label: what it is worth is what the hold of that sum in a sandbox is worth. -/
noncomputable def Try.pinned : Pinned := { name := "ytljpmnifkccbdaa", sum := "8f630845a73bfc1888935c7215377f407ea85bd7d591164f21fe9e4c8ff44694", checked := Try.checked }
namespace Rows
def none {H : Type} : Left H := { results := [], args := [] }

/-- 'polyphonylaw15.ScoreSpans': WHATEVER THE INPUT: true; the input reads as it did. -/
def scoreSpansSpec : ChangeSpec := { name := "scoreSpans", fn := fun _ => fun
  | [d1, d2, d3] => { results := [.lit (.bool true)], args := [d1, d2, d3] }
  | _ => none }
def scoreSpansRow : OpenClaim := { program := "ytljpmnifkccbdaa", sum := "8f630845a73bfc1888935c7215377f407ea85bd7d591164f21fe9e4c8ff44694", func := "polyphony/polyphonylaw15.ScoreSpans", spec := "scoreSpans", apart := false }
def ScoreSpansSaid : Prop := scoreSpansRow.holds Try.pinned (OpenSpec.ofChange scoreSpansSpec)

/-- ITS FALSE NEIGHBOUR: 'it returns false'. Refute it at one input. -/
def scoreSpansWrong : ChangeSpec := { name := "scoreSpans", fn := fun _ => fun
  | [d1, d2, d3] => { results := [.lit (.bool false)], args := [d1, d2, d3] }
  | _ => none }
def ScoreSpansWrongFalsely : Prop := scoreSpansRow.holds Try.pinned (OpenSpec.ofChange scoreSpansWrong)

/-- 'polyphonylaw10.LiveAll': WHATEVER THE INPUT: true; the input reads as it did. -/
def liveAllSpec : ChangeSpec := { name := "liveAll", fn := fun _ => fun
  | [d1, d2, d3] => { results := [.lit (.bool true)], args := [d1, d2, d3] }
  | _ => none }
def liveAllRow : OpenClaim := { program := "ytljpmnifkccbdaa", sum := "8f630845a73bfc1888935c7215377f407ea85bd7d591164f21fe9e4c8ff44694", func := "polyphony/polyphonylaw10.LiveAll", spec := "liveAll", unfollowed := true, recurses := true, apart := false }
def LiveAllSaid : Prop := liveAllRow.holds Try.pinned (OpenSpec.ofChange liveAllSpec)

/-- ITS FALSE NEIGHBOUR: 'it returns false'. Refute it at one input. -/
def liveAllWrong : ChangeSpec := { name := "liveAll", fn := fun _ => fun
  | [d1, d2, d3] => { results := [.lit (.bool false)], args := [d1, d2, d3] }
  | _ => none }
def LiveAllWrongFalsely : Prop := liveAllRow.holds Try.pinned (OpenSpec.ofChange liveAllWrong)

/-- 'polyphonylaw10.LiveStays': WHATEVER THE INPUT: true; the input reads as it did. -/
def liveStaysSpec : ChangeSpec := { name := "liveStays", fn := fun _ => fun
  | [d1, d2] => { results := [.lit (.bool true)], args := [d1, d2] }
  | _ => none }
def liveStaysRow : OpenClaim := { program := "ytljpmnifkccbdaa", sum := "8f630845a73bfc1888935c7215377f407ea85bd7d591164f21fe9e4c8ff44694", func := "polyphony/polyphonylaw10.LiveStays", spec := "liveStays", unfollowed := true, recurses := true, apart := false }
def LiveStaysSaid : Prop := liveStaysRow.holds Try.pinned (OpenSpec.ofChange liveStaysSpec)

/-- ITS FALSE NEIGHBOUR: 'it returns false'. Refute it at one input. -/
def liveStaysWrong : ChangeSpec := { name := "liveStays", fn := fun _ => fun
  | [d1, d2] => { results := [.lit (.bool false)], args := [d1, d2] }
  | _ => none }
def LiveStaysWrongFalsely : Prop := liveStaysRow.holds Try.pinned (OpenSpec.ofChange liveStaysWrong)

/-- 'polyphonylaw10.LivePrunes': WHATEVER THE INPUT: true; the input reads as it did. -/
def livePrunesSpec : ChangeSpec := { name := "livePrunes", fn := fun _ => fun
  | [d1, d2] => { results := [.lit (.bool true)], args := [d1, d2] }
  | _ => none }
def livePrunesRow : OpenClaim := { program := "ytljpmnifkccbdaa", sum := "8f630845a73bfc1888935c7215377f407ea85bd7d591164f21fe9e4c8ff44694", func := "polyphony/polyphonylaw10.LivePrunes", spec := "livePrunes", unfollowed := true, recurses := true, apart := false }
def LivePrunesSaid : Prop := livePrunesRow.holds Try.pinned (OpenSpec.ofChange livePrunesSpec)

/-- ITS FALSE NEIGHBOUR: 'it returns false'. Refute it at one input. -/
def livePrunesWrong : ChangeSpec := { name := "livePrunes", fn := fun _ => fun
  | [d1, d2] => { results := [.lit (.bool false)], args := [d1, d2] }
  | _ => none }
def LivePrunesWrongFalsely : Prop := livePrunesRow.holds Try.pinned (OpenSpec.ofChange livePrunesWrong)

/-- 'polyphonylaw10.LiveAbreast': WHATEVER THE INPUT: true; the input reads as it did. -/
def liveAbreastSpec : ChangeSpec := { name := "liveAbreast", fn := fun _ => fun
  | [d] => { results := [.lit (.bool true)], args := [d] }
  | _ => none }
def liveAbreastRow : OpenClaim := { program := "ytljpmnifkccbdaa", sum := "8f630845a73bfc1888935c7215377f407ea85bd7d591164f21fe9e4c8ff44694", func := "polyphony/polyphonylaw10.LiveAbreast", spec := "liveAbreast", unfollowed := true, recurses := true, apart := false }
def LiveAbreastSaid : Prop := liveAbreastRow.holds Try.pinned (OpenSpec.ofChange liveAbreastSpec)

/-- ITS FALSE NEIGHBOUR: 'it returns false'. Refute it at one input. -/
def liveAbreastWrong : ChangeSpec := { name := "liveAbreast", fn := fun _ => fun
  | [d] => { results := [.lit (.bool false)], args := [d] }
  | _ => none }
def LiveAbreastWrongFalsely : Prop := liveAbreastRow.holds Try.pinned (OpenSpec.ofChange liveAbreastWrong)

/-- 'polyphonylaw10.LiveApart': WHATEVER THE INPUT: true; the input reads as it did. -/
def liveApartSpec : ChangeSpec := { name := "liveApart", fn := fun _ => fun
  | [d1, d2] => { results := [.lit (.bool true)], args := [d1, d2] }
  | _ => none }
def liveApartRow : OpenClaim := { program := "ytljpmnifkccbdaa", sum := "8f630845a73bfc1888935c7215377f407ea85bd7d591164f21fe9e4c8ff44694", func := "polyphony/polyphonylaw10.LiveApart", spec := "liveApart", unfollowed := true, recurses := true, apart := false }
def LiveApartSaid : Prop := liveApartRow.holds Try.pinned (OpenSpec.ofChange liveApartSpec)

/-- ITS FALSE NEIGHBOUR: 'it returns false'. Refute it at one input. -/
def liveApartWrong : ChangeSpec := { name := "liveApart", fn := fun _ => fun
  | [d1, d2] => { results := [.lit (.bool false)], args := [d1, d2] }
  | _ => none }
def LiveApartWrongFalsely : Prop := liveApartRow.holds Try.pinned (OpenSpec.ofChange liveApartWrong)

/-- 'polyphonylaw15.ScoreApart': WHATEVER THE INPUT: true; the input reads as it did. -/
def scoreApartSpec : ChangeSpec := { name := "scoreApart", fn := fun _ => fun
  | [d1, d2] => { results := [.lit (.bool true)], args := [d1, d2] }
  | _ => none }
def scoreApartRow : OpenClaim := { program := "ytljpmnifkccbdaa", sum := "8f630845a73bfc1888935c7215377f407ea85bd7d591164f21fe9e4c8ff44694", func := "polyphony/polyphonylaw15.ScoreApart", spec := "scoreApart", unfollowed := true, recurses := true, apart := false }
def ScoreApartSaid : Prop := scoreApartRow.holds Try.pinned (OpenSpec.ofChange scoreApartSpec)

/-- ITS FALSE NEIGHBOUR: 'it returns false'. Refute it at one input. -/
def scoreApartWrong : ChangeSpec := { name := "scoreApart", fn := fun _ => fun
  | [d1, d2] => { results := [.lit (.bool false)], args := [d1, d2] }
  | _ => none }
def ScoreApartWrongFalsely : Prop := scoreApartRow.holds Try.pinned (OpenSpec.ofChange scoreApartWrong)

/-- 'polyphonylaw15.ScoreTells': WHATEVER THE INPUT: true; the input reads as it did. -/
def scoreTellsSpec : ChangeSpec := { name := "scoreTells", fn := fun _ => fun
  | [d1, d2] => { results := [.lit (.bool true)], args := [d1, d2] }
  | _ => none }
def scoreTellsRow : OpenClaim := { program := "ytljpmnifkccbdaa", sum := "8f630845a73bfc1888935c7215377f407ea85bd7d591164f21fe9e4c8ff44694", func := "polyphony/polyphonylaw15.ScoreTells", spec := "scoreTells", unfollowed := true, recurses := true, apart := false }
def ScoreTellsSaid : Prop := scoreTellsRow.holds Try.pinned (OpenSpec.ofChange scoreTellsSpec)

/-- ITS FALSE NEIGHBOUR: 'it returns false'. Refute it at one input. -/
def scoreTellsWrong : ChangeSpec := { name := "scoreTells", fn := fun _ => fun
  | [d1, d2] => { results := [.lit (.bool false)], args := [d1, d2] }
  | _ => none }
def ScoreTellsWrongFalsely : Prop := scoreTellsRow.holds Try.pinned (OpenSpec.ofChange scoreTellsWrong)

/-- 'polyphonylaw15.ScoreOrder': WHATEVER THE INPUT: true; the input reads as it did. -/
def scoreOrderSpec : ChangeSpec := { name := "scoreOrder", fn := fun _ => fun
  | [d] => { results := [.lit (.bool true)], args := [d] }
  | _ => none }
def scoreOrderRow : OpenClaim := { program := "ytljpmnifkccbdaa", sum := "8f630845a73bfc1888935c7215377f407ea85bd7d591164f21fe9e4c8ff44694", func := "polyphony/polyphonylaw15.ScoreOrder", spec := "scoreOrder", unfollowed := true, recurses := true, apart := false }
def ScoreOrderSaid : Prop := scoreOrderRow.holds Try.pinned (OpenSpec.ofChange scoreOrderSpec)

/-- ITS FALSE NEIGHBOUR: 'it returns false'. Refute it at one input. -/
def scoreOrderWrong : ChangeSpec := { name := "scoreOrder", fn := fun _ => fun
  | [d] => { results := [.lit (.bool false)], args := [d] }
  | _ => none }
def ScoreOrderWrongFalsely : Prop := scoreOrderRow.holds Try.pinned (OpenSpec.ofChange scoreOrderWrong)

/-- 'polyphonylaw10.LiveKeys': WHATEVER THE INPUT: true; the input reads as it did. -/
def liveKeysSpec : ChangeSpec := { name := "liveKeys", fn := fun _ => fun
  | [d1, d2] => { results := [.lit (.bool true)], args := [d1, d2] }
  | _ => none }
def liveKeysRow : OpenClaim := { program := "ytljpmnifkccbdaa", sum := "8f630845a73bfc1888935c7215377f407ea85bd7d591164f21fe9e4c8ff44694", func := "polyphony/polyphonylaw10.LiveKeys", spec := "liveKeys", unfollowed := true, recurses := true, apart := false }
def LiveKeysSaid : Prop := liveKeysRow.holds Try.pinned (OpenSpec.ofChange liveKeysSpec)

/-- ITS FALSE NEIGHBOUR: 'it returns false'. Refute it at one input. -/
def liveKeysWrong : ChangeSpec := { name := "liveKeys", fn := fun _ => fun
  | [d1, d2] => { results := [.lit (.bool false)], args := [d1, d2] }
  | _ => none }
def LiveKeysWrongFalsely : Prop := liveKeysRow.holds Try.pinned (OpenSpec.ofChange liveKeysWrong)

/-- 'polyphonylaw10.LiveOrder': WHATEVER THE INPUT: true; the input reads as it did. -/
def liveOrderSpec : ChangeSpec := { name := "liveOrder", fn := fun _ => fun
  | [d1, d2, d3] => { results := [.lit (.bool true)], args := [d1, d2, d3] }
  | _ => none }
def liveOrderRow : OpenClaim := { program := "ytljpmnifkccbdaa", sum := "8f630845a73bfc1888935c7215377f407ea85bd7d591164f21fe9e4c8ff44694", func := "polyphony/polyphonylaw10.LiveOrder", spec := "liveOrder", unfollowed := true, recurses := true, apart := false }
def LiveOrderSaid : Prop := liveOrderRow.holds Try.pinned (OpenSpec.ofChange liveOrderSpec)

/-- ITS FALSE NEIGHBOUR: 'it returns false'. Refute it at one input. -/
def liveOrderWrong : ChangeSpec := { name := "liveOrder", fn := fun _ => fun
  | [d1, d2, d3] => { results := [.lit (.bool false)], args := [d1, d2, d3] }
  | _ => none }
def LiveOrderWrongFalsely : Prop := liveOrderRow.holds Try.pinned (OpenSpec.ofChange liveOrderWrong)

/-- 'polyphonylaw10.LiveTwice': WHATEVER THE INPUT: true; the input reads as it did. -/
def liveTwiceSpec : ChangeSpec := { name := "liveTwice", fn := fun _ => fun
  | [d1, d2] => { results := [.lit (.bool true)], args := [d1, d2] }
  | _ => none }
def liveTwiceRow : OpenClaim := { program := "ytljpmnifkccbdaa", sum := "8f630845a73bfc1888935c7215377f407ea85bd7d591164f21fe9e4c8ff44694", func := "polyphony/polyphonylaw10.LiveTwice", spec := "liveTwice", unfollowed := true, recurses := true, apart := false }
def LiveTwiceSaid : Prop := liveTwiceRow.holds Try.pinned (OpenSpec.ofChange liveTwiceSpec)

/-- ITS FALSE NEIGHBOUR: 'it returns false'. Refute it at one input. -/
def liveTwiceWrong : ChangeSpec := { name := "liveTwice", fn := fun _ => fun
  | [d1, d2] => { results := [.lit (.bool false)], args := [d1, d2] }
  | _ => none }
def LiveTwiceWrongFalsely : Prop := liveTwiceRow.holds Try.pinned (OpenSpec.ofChange liveTwiceWrong)

/- THE SECOND FORM. 'bulk': how many values and letters a reading holds, each counted each time it is reached (what is shared counts as often as it is met; a slice's spare places count too). A statement '..UptoSaid' is the law's where the arguments, and the package variables that the reading takes, are together of bulk at most 1048576: NARROWER than '..Said'. Prove '..Said' where nothing that the law and all that it calls make is longer than what came in: it says more and counts as full. Else prove '..UptoSaid'. A law counts once. -/
mutual
def uptoBulk {H : Type} : DataW H → Nat
  | .lit (.string bytes) => bytes.length + 1
  | .lit _ => 1
  | .nil => 1
  | .ptr d => uptoBulk d + 1
  | .slice elems spare => uptoBulkAll elems + uptoBulkAll spare + 1
  | .agg parts => uptoBulkAll parts + 1
  | .iface _ d => uptoBulk d + 1
  | .map entries => uptoBulkEntries entries + 1
  | .held _ => 1
def uptoBulkAll {H : Type} : List (DataW H) → Nat
  | [] => 0
  | d :: r => uptoBulk d + uptoBulkAll r
def uptoBulkEntries {H : Type} : List (Lit × DataW H) → Nat
  | [] => 0
  | x :: r => uptoBulkEntry x + uptoBulkEntries r
def uptoBulkEntry {H : Type} : Lit × DataW H → Nat
  | (.string bytes, d) => bytes.length + uptoBulk d + 1
  | (_, d) => uptoBulk d + 1
 end
def uptoSmall : (H : Type) → List (DataW H) → Bool := fun _ ds => decide (uptoBulkAll ds ≤ 1048576)
def OpenSpec.upto (s : _root_.Go.ChangeSpec) : _root_.Go.OpenSpec := { _root_.Go.OpenSpec.ofChange s with cond := some uptoSmall }

/-- 'polyphonylaw15.ScoreSpans', WHERE WHAT IT READS IS OF BULK AT MOST 1048576: true; the input reads as it did. -/
def scoreSpansUptoRow : OpenClaim := { program := "ytljpmnifkccbdaa", sum := "8f630845a73bfc1888935c7215377f407ea85bd7d591164f21fe9e4c8ff44694", func := "polyphony/polyphonylaw15.ScoreSpans", spec := "scoreSpans", apart := false, narrowed := true }
def ScoreSpansUptoSaid : Prop := scoreSpansUptoRow.holds Try.pinned (OpenSpec.upto scoreSpansSpec)

/-- 'polyphonylaw10.LiveAll', WHERE WHAT IT READS IS OF BULK AT MOST 1048576: true; the input reads as it did. -/
def liveAllUptoRow : OpenClaim := { program := "ytljpmnifkccbdaa", sum := "8f630845a73bfc1888935c7215377f407ea85bd7d591164f21fe9e4c8ff44694", func := "polyphony/polyphonylaw10.LiveAll", spec := "liveAll", unfollowed := true, recurses := true, apart := false, narrowed := true }
def LiveAllUptoSaid : Prop := liveAllUptoRow.holds Try.pinned (OpenSpec.upto liveAllSpec)

/-- 'polyphonylaw10.LiveStays', WHERE WHAT IT READS IS OF BULK AT MOST 1048576: true; the input reads as it did. -/
def liveStaysUptoRow : OpenClaim := { program := "ytljpmnifkccbdaa", sum := "8f630845a73bfc1888935c7215377f407ea85bd7d591164f21fe9e4c8ff44694", func := "polyphony/polyphonylaw10.LiveStays", spec := "liveStays", unfollowed := true, recurses := true, apart := false, narrowed := true }
def LiveStaysUptoSaid : Prop := liveStaysUptoRow.holds Try.pinned (OpenSpec.upto liveStaysSpec)

/-- 'polyphonylaw10.LivePrunes', WHERE WHAT IT READS IS OF BULK AT MOST 1048576: true; the input reads as it did. -/
def livePrunesUptoRow : OpenClaim := { program := "ytljpmnifkccbdaa", sum := "8f630845a73bfc1888935c7215377f407ea85bd7d591164f21fe9e4c8ff44694", func := "polyphony/polyphonylaw10.LivePrunes", spec := "livePrunes", unfollowed := true, recurses := true, apart := false, narrowed := true }
def LivePrunesUptoSaid : Prop := livePrunesUptoRow.holds Try.pinned (OpenSpec.upto livePrunesSpec)

/-- 'polyphonylaw10.LiveAbreast', WHERE WHAT IT READS IS OF BULK AT MOST 1048576: true; the input reads as it did. -/
def liveAbreastUptoRow : OpenClaim := { program := "ytljpmnifkccbdaa", sum := "8f630845a73bfc1888935c7215377f407ea85bd7d591164f21fe9e4c8ff44694", func := "polyphony/polyphonylaw10.LiveAbreast", spec := "liveAbreast", unfollowed := true, recurses := true, apart := false, narrowed := true }
def LiveAbreastUptoSaid : Prop := liveAbreastUptoRow.holds Try.pinned (OpenSpec.upto liveAbreastSpec)

/-- 'polyphonylaw10.LiveApart', WHERE WHAT IT READS IS OF BULK AT MOST 1048576: true; the input reads as it did. -/
def liveApartUptoRow : OpenClaim := { program := "ytljpmnifkccbdaa", sum := "8f630845a73bfc1888935c7215377f407ea85bd7d591164f21fe9e4c8ff44694", func := "polyphony/polyphonylaw10.LiveApart", spec := "liveApart", unfollowed := true, recurses := true, apart := false, narrowed := true }
def LiveApartUptoSaid : Prop := liveApartUptoRow.holds Try.pinned (OpenSpec.upto liveApartSpec)

/-- 'polyphonylaw15.ScoreApart', WHERE WHAT IT READS IS OF BULK AT MOST 1048576: true; the input reads as it did. -/
def scoreApartUptoRow : OpenClaim := { program := "ytljpmnifkccbdaa", sum := "8f630845a73bfc1888935c7215377f407ea85bd7d591164f21fe9e4c8ff44694", func := "polyphony/polyphonylaw15.ScoreApart", spec := "scoreApart", unfollowed := true, recurses := true, apart := false, narrowed := true }
def ScoreApartUptoSaid : Prop := scoreApartUptoRow.holds Try.pinned (OpenSpec.upto scoreApartSpec)

/-- 'polyphonylaw15.ScoreTells', WHERE WHAT IT READS IS OF BULK AT MOST 1048576: true; the input reads as it did. -/
def scoreTellsUptoRow : OpenClaim := { program := "ytljpmnifkccbdaa", sum := "8f630845a73bfc1888935c7215377f407ea85bd7d591164f21fe9e4c8ff44694", func := "polyphony/polyphonylaw15.ScoreTells", spec := "scoreTells", unfollowed := true, recurses := true, apart := false, narrowed := true }
def ScoreTellsUptoSaid : Prop := scoreTellsUptoRow.holds Try.pinned (OpenSpec.upto scoreTellsSpec)

/-- 'polyphonylaw15.ScoreOrder', WHERE WHAT IT READS IS OF BULK AT MOST 1048576: true; the input reads as it did. -/
def scoreOrderUptoRow : OpenClaim := { program := "ytljpmnifkccbdaa", sum := "8f630845a73bfc1888935c7215377f407ea85bd7d591164f21fe9e4c8ff44694", func := "polyphony/polyphonylaw15.ScoreOrder", spec := "scoreOrder", unfollowed := true, recurses := true, apart := false, narrowed := true }
def ScoreOrderUptoSaid : Prop := scoreOrderUptoRow.holds Try.pinned (OpenSpec.upto scoreOrderSpec)

/-- 'polyphonylaw10.LiveKeys', WHERE WHAT IT READS IS OF BULK AT MOST 1048576: true; the input reads as it did. -/
def liveKeysUptoRow : OpenClaim := { program := "ytljpmnifkccbdaa", sum := "8f630845a73bfc1888935c7215377f407ea85bd7d591164f21fe9e4c8ff44694", func := "polyphony/polyphonylaw10.LiveKeys", spec := "liveKeys", unfollowed := true, recurses := true, apart := false, narrowed := true }
def LiveKeysUptoSaid : Prop := liveKeysUptoRow.holds Try.pinned (OpenSpec.upto liveKeysSpec)

/-- 'polyphonylaw10.LiveOrder', WHERE WHAT IT READS IS OF BULK AT MOST 1048576: true; the input reads as it did. -/
def liveOrderUptoRow : OpenClaim := { program := "ytljpmnifkccbdaa", sum := "8f630845a73bfc1888935c7215377f407ea85bd7d591164f21fe9e4c8ff44694", func := "polyphony/polyphonylaw10.LiveOrder", spec := "liveOrder", unfollowed := true, recurses := true, apart := false, narrowed := true }
def LiveOrderUptoSaid : Prop := liveOrderUptoRow.holds Try.pinned (OpenSpec.upto liveOrderSpec)

/-- 'polyphonylaw10.LiveTwice', WHERE WHAT IT READS IS OF BULK AT MOST 1048576: true; the input reads as it did. -/
def liveTwiceUptoRow : OpenClaim := { program := "ytljpmnifkccbdaa", sum := "8f630845a73bfc1888935c7215377f407ea85bd7d591164f21fe9e4c8ff44694", func := "polyphony/polyphonylaw10.LiveTwice", spec := "liveTwice", unfollowed := true, recurses := true, apart := false, narrowed := true }
def LiveTwiceUptoSaid : Prop := liveTwiceUptoRow.holds Try.pinned (OpenSpec.upto liveTwiceSpec)

end Rows
end Go.Proofs.Ytljpmnifkccbdaa
