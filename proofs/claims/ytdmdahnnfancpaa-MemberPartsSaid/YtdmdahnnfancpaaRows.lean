/-
  No cell of these rows narrows 'for every input' (looked for: loops, veiled, ifaces, maps, wideKeys, modest, calm, conditions, laid).
  DERIVED. THE GIVEN ROWS OF THIS SEAT. 9 by the template 'for every input the law returns true; each argument reads behind the call as it read before'; 0 by the template 'total and deterministic' (their statements: YtdmdahnnfancpaaTotals.lean).
  GIVEN WITH THE SEED: the statements are not yours to turn. If you find one false, say at which input.
  Laid BY PROGRAM, IN A SANDBOX (cutbox-rows.mjs): the forced cells as the released guide's own fill.sh prints them over the translation 70754dc6bb99e42a… (all of the seat's roots in one cut). By AI agents, Wed Nov 11 2026. No macro, syntax, notation, axiom, sorry.
-/
import Derived.Test.YtdmdahnnfancpaaChecked
import GoSem.Claim
import GoSem.ClaimJoined
import GoSem.ClaimMapViews
import Derived.JoinedTies
import Derived.KernelRfl
namespace Go.Proofs.Ytdmdahnnfancpaa
/- THE CELL 'sum', in the pinned program and in every row, IS THE sha256 OF THE DUMP (.gsa) THAT YtdmdahnnfancpaaProg.lean LOADS. Nothing in Lean hashes anything: it is a label: what it is worth is what the hold of that sum in a sandbox is worth. -/
noncomputable def Try.pinned : Pinned := { name := "ytdmdahnnfancpaa", sum := "70754dc6bb99e42ae989688a26708a48f777e697f7647d74cfd31fbeb1b1c382", checked := Try.checked }
namespace Rows
def none {H : Type} : Left H := { results := [], args := [] }

/-- 'polyphonylaw15.ScoreSpans': WHATEVER THE INPUT: true; the input reads as it did. -/
def scoreSpansSpec : ChangeSpec := { name := "scoreSpans", fn := fun _ => fun
  | [d1, d2, d3] => { results := [.lit (.bool true)], args := [d1, d2, d3] }
  | _ => none }
def scoreSpansRow : OpenClaim := { program := "ytdmdahnnfancpaa", sum := "70754dc6bb99e42ae989688a26708a48f777e697f7647d74cfd31fbeb1b1c382", func := "polyphony/polyphonylaw15.ScoreSpans", spec := "scoreSpans", apart := false }
def ScoreSpansSaid : Prop := scoreSpansRow.holds Try.pinned (OpenSpec.ofChange scoreSpansSpec)

/-- ITS FALSE NEIGHBOUR: 'it returns false'. Refute it at one input. -/
def scoreSpansWrong : ChangeSpec := { name := "scoreSpans", fn := fun _ => fun
  | [d1, d2, d3] => { results := [.lit (.bool false)], args := [d1, d2, d3] }
  | _ => none }
def ScoreSpansWrongFalsely : Prop := scoreSpansRow.holds Try.pinned (OpenSpec.ofChange scoreSpansWrong)

/-- 'polyphonylaw15.ScoreApart': WHATEVER THE INPUT: true; the input reads as it did. -/
def scoreApartSpec : ChangeSpec := { name := "scoreApart", fn := fun _ => fun
  | [d1, d2] => { results := [.lit (.bool true)], args := [d1, d2] }
  | _ => none }
def scoreApartRow : OpenClaim := { program := "ytdmdahnnfancpaa", sum := "70754dc6bb99e42ae989688a26708a48f777e697f7647d74cfd31fbeb1b1c382", func := "polyphony/polyphonylaw15.ScoreApart", spec := "scoreApart", unfollowed := true, recurses := true, apart := false }
def ScoreApartSaid : Prop := scoreApartRow.holds Try.pinned (OpenSpec.ofChange scoreApartSpec)

/-- ITS FALSE NEIGHBOUR: 'it returns false'. Refute it at one input. -/
def scoreApartWrong : ChangeSpec := { name := "scoreApart", fn := fun _ => fun
  | [d1, d2] => { results := [.lit (.bool false)], args := [d1, d2] }
  | _ => none }
def ScoreApartWrongFalsely : Prop := scoreApartRow.holds Try.pinned (OpenSpec.ofChange scoreApartWrong)

/-- 'polyphonylaw15.ScoreTells': WHATEVER THE INPUT: true; the input reads as it did. -/
def scoreTellsSpec : ChangeSpec := { name := "scoreTells", fn := fun _ => fun
  | [d1, d2] => { results := [.lit (.bool true)], args := [d1, d2] }
  | _ => none }
def scoreTellsRow : OpenClaim := { program := "ytdmdahnnfancpaa", sum := "70754dc6bb99e42ae989688a26708a48f777e697f7647d74cfd31fbeb1b1c382", func := "polyphony/polyphonylaw15.ScoreTells", spec := "scoreTells", unfollowed := true, recurses := true, apart := false }
def ScoreTellsSaid : Prop := scoreTellsRow.holds Try.pinned (OpenSpec.ofChange scoreTellsSpec)

/-- ITS FALSE NEIGHBOUR: 'it returns false'. Refute it at one input. -/
def scoreTellsWrong : ChangeSpec := { name := "scoreTells", fn := fun _ => fun
  | [d1, d2] => { results := [.lit (.bool false)], args := [d1, d2] }
  | _ => none }
def ScoreTellsWrongFalsely : Prop := scoreTellsRow.holds Try.pinned (OpenSpec.ofChange scoreTellsWrong)

/-- 'polyphonylaw15.ScoreOrder': WHATEVER THE INPUT: true; the input reads as it did. -/
def scoreOrderSpec : ChangeSpec := { name := "scoreOrder", fn := fun _ => fun
  | [d] => { results := [.lit (.bool true)], args := [d] }
  | _ => none }
def scoreOrderRow : OpenClaim := { program := "ytdmdahnnfancpaa", sum := "70754dc6bb99e42ae989688a26708a48f777e697f7647d74cfd31fbeb1b1c382", func := "polyphony/polyphonylaw15.ScoreOrder", spec := "scoreOrder", unfollowed := true, recurses := true, apart := false }
def ScoreOrderSaid : Prop := scoreOrderRow.holds Try.pinned (OpenSpec.ofChange scoreOrderSpec)

/-- ITS FALSE NEIGHBOUR: 'it returns false'. Refute it at one input. -/
def scoreOrderWrong : ChangeSpec := { name := "scoreOrder", fn := fun _ => fun
  | [d] => { results := [.lit (.bool false)], args := [d] }
  | _ => none }
def ScoreOrderWrongFalsely : Prop := scoreOrderRow.holds Try.pinned (OpenSpec.ofChange scoreOrderWrong)

/-- 'polyphonylaw14.FieldTells': WHATEVER THE INPUT: true; the input reads as it did. -/
def fieldTellsSpec : ChangeSpec := { name := "fieldTells", fn := fun _ => fun
  | [d1, d2] => { results := [.lit (.bool true)], args := [d1, d2] }
  | _ => none }
def fieldTellsRow : OpenClaim := { program := "ytdmdahnnfancpaa", sum := "70754dc6bb99e42ae989688a26708a48f777e697f7647d74cfd31fbeb1b1c382", func := "polyphony/polyphonylaw14.FieldTells", spec := "fieldTells", unfollowed := true, recurses := true, apart := false }
def FieldTellsSaid : Prop := fieldTellsRow.holds Try.pinned (OpenSpec.ofChange fieldTellsSpec)

/-- ITS FALSE NEIGHBOUR: 'it returns false'. Refute it at one input. -/
def fieldTellsWrong : ChangeSpec := { name := "fieldTells", fn := fun _ => fun
  | [d1, d2] => { results := [.lit (.bool false)], args := [d1, d2] }
  | _ => none }
def FieldTellsWrongFalsely : Prop := fieldTellsRow.holds Try.pinned (OpenSpec.ofChange fieldTellsWrong)

/-- 'polyphonylaw14.FieldOrder': WHATEVER THE INPUT: true; the input reads as it did. -/
def fieldOrderSpec : ChangeSpec := { name := "fieldOrder", fn := fun _ => fun
  | [d] => { results := [.lit (.bool true)], args := [d] }
  | _ => none }
def fieldOrderRow : OpenClaim := { program := "ytdmdahnnfancpaa", sum := "70754dc6bb99e42ae989688a26708a48f777e697f7647d74cfd31fbeb1b1c382", func := "polyphony/polyphonylaw14.FieldOrder", spec := "fieldOrder", unfollowed := true, recurses := true, apart := false }
def FieldOrderSaid : Prop := fieldOrderRow.holds Try.pinned (OpenSpec.ofChange fieldOrderSpec)

/-- ITS FALSE NEIGHBOUR: 'it returns false'. Refute it at one input. -/
def fieldOrderWrong : ChangeSpec := { name := "fieldOrder", fn := fun _ => fun
  | [d] => { results := [.lit (.bool false)], args := [d] }
  | _ => none }
def FieldOrderWrongFalsely : Prop := fieldOrderRow.holds Try.pinned (OpenSpec.ofChange fieldOrderWrong)

/-- 'polyphonylaw14.FieldApart': WHATEVER THE INPUT: true; the input reads as it did. -/
def fieldApartSpec : ChangeSpec := { name := "fieldApart", fn := fun _ => fun
  | [d1, d2] => { results := [.lit (.bool true)], args := [d1, d2] }
  | _ => none }
def fieldApartRow : OpenClaim := { program := "ytdmdahnnfancpaa", sum := "70754dc6bb99e42ae989688a26708a48f777e697f7647d74cfd31fbeb1b1c382", func := "polyphony/polyphonylaw14.FieldApart", spec := "fieldApart", unfollowed := true, recurses := true, apart := false }
def FieldApartSaid : Prop := fieldApartRow.holds Try.pinned (OpenSpec.ofChange fieldApartSpec)

/-- ITS FALSE NEIGHBOUR: 'it returns false'. Refute it at one input. -/
def fieldApartWrong : ChangeSpec := { name := "fieldApart", fn := fun _ => fun
  | [d1, d2] => { results := [.lit (.bool false)], args := [d1, d2] }
  | _ => none }
def FieldApartWrongFalsely : Prop := fieldApartRow.holds Try.pinned (OpenSpec.ofChange fieldApartWrong)

/-- 'polyphonylaw13.MemberTells': WHATEVER THE INPUT: true; the input reads as it did. -/
def memberTellsSpec : ChangeSpec := { name := "memberTells", fn := fun _ => fun
  | [d1, d2] => { results := [.lit (.bool true)], args := [d1, d2] }
  | _ => none }
def memberTellsRow : OpenClaim := { program := "ytdmdahnnfancpaa", sum := "70754dc6bb99e42ae989688a26708a48f777e697f7647d74cfd31fbeb1b1c382", func := "polyphony/polyphonylaw13.MemberTells", spec := "memberTells", unfollowed := true, recurses := true, apart := false }
def MemberTellsSaid : Prop := memberTellsRow.holds Try.pinned (OpenSpec.ofChange memberTellsSpec)

/-- ITS FALSE NEIGHBOUR: 'it returns false'. Refute it at one input. -/
def memberTellsWrong : ChangeSpec := { name := "memberTells", fn := fun _ => fun
  | [d1, d2] => { results := [.lit (.bool false)], args := [d1, d2] }
  | _ => none }
def MemberTellsWrongFalsely : Prop := memberTellsRow.holds Try.pinned (OpenSpec.ofChange memberTellsWrong)

/-- 'polyphonylaw13.MemberParts': WHATEVER THE INPUT: true; the input reads as it did. -/
def memberPartsSpec : ChangeSpec := { name := "memberParts", fn := fun _ => fun
  | [d1, d2, d3] => { results := [.lit (.bool true)], args := [d1, d2, d3] }
  | _ => none }
def memberPartsRow : OpenClaim := { program := "ytdmdahnnfancpaa", sum := "70754dc6bb99e42ae989688a26708a48f777e697f7647d74cfd31fbeb1b1c382", func := "polyphony/polyphonylaw13.MemberParts", spec := "memberParts", unfollowed := true, recurses := true, apart := false }
def MemberPartsSaid : Prop := memberPartsRow.holds Try.pinned (OpenSpec.ofChange memberPartsSpec)

/-- ITS FALSE NEIGHBOUR: 'it returns false'. Refute it at one input. -/
def memberPartsWrong : ChangeSpec := { name := "memberParts", fn := fun _ => fun
  | [d1, d2, d3] => { results := [.lit (.bool false)], args := [d1, d2, d3] }
  | _ => none }
def MemberPartsWrongFalsely : Prop := memberPartsRow.holds Try.pinned (OpenSpec.ofChange memberPartsWrong)

/- THE SECOND FORM. 'bulk': how many values and letters a reading holds, each counted each time it is reached (what is shared counts as often as it is met; a slice's spare places count too). A statement '..UptoSaid' is the law's where the arguments, and the package variables that the reading takes, are together of bulk at most 1048576: NARROWER than '..Said'. Prove '..Said' where nothing that the law and all that it calls make is longer than what came in: it says more and counts as full. Else prove '..UptoSaid'. A law counts once. -/
mutual
def uptoBulk {H : Type} : DataW H → Nat
  | .lit (.string bytes) => bytes.length + 1
  | .lit _ => 1
  | .nil => 1
  | .ptr d => uptoBulk d + 1
  | .slice elems spare => uptoBulkAll elems + uptoBulkAll spare + 1
  | .agg parts => uptoBulkAll parts + 1
  | .iface _ d => uptoBulk d + 1
  | .map entries => uptoBulkEntries entries + 1
  | .held _ => 1
def uptoBulkAll {H : Type} : List (DataW H) → Nat
  | [] => 0
  | d :: r => uptoBulk d + uptoBulkAll r
def uptoBulkEntries {H : Type} : List (Lit × DataW H) → Nat
  | [] => 0
  | x :: r => uptoBulkEntry x + uptoBulkEntries r
def uptoBulkEntry {H : Type} : Lit × DataW H → Nat
  | (.string bytes, d) => bytes.length + uptoBulk d + 1
  | (_, d) => uptoBulk d + 1
 end
def uptoSmall : (H : Type) → List (DataW H) → Bool := fun _ ds => decide (uptoBulkAll ds ≤ 1048576)
def OpenSpec.upto (s : _root_.Go.ChangeSpec) : _root_.Go.OpenSpec := { _root_.Go.OpenSpec.ofChange s with cond := some uptoSmall }

/-- 'polyphonylaw15.ScoreSpans', WHERE WHAT IT READS IS OF BULK AT MOST 1048576: true; the input reads as it did. -/
def scoreSpansUptoRow : OpenClaim := { program := "ytdmdahnnfancpaa", sum := "70754dc6bb99e42ae989688a26708a48f777e697f7647d74cfd31fbeb1b1c382", func := "polyphony/polyphonylaw15.ScoreSpans", spec := "scoreSpans", apart := false, narrowed := true }
def ScoreSpansUptoSaid : Prop := scoreSpansUptoRow.holds Try.pinned (OpenSpec.upto scoreSpansSpec)

/-- 'polyphonylaw15.ScoreApart', WHERE WHAT IT READS IS OF BULK AT MOST 1048576: true; the input reads as it did. -/
def scoreApartUptoRow : OpenClaim := { program := "ytdmdahnnfancpaa", sum := "70754dc6bb99e42ae989688a26708a48f777e697f7647d74cfd31fbeb1b1c382", func := "polyphony/polyphonylaw15.ScoreApart", spec := "scoreApart", unfollowed := true, recurses := true, apart := false, narrowed := true }
def ScoreApartUptoSaid : Prop := scoreApartUptoRow.holds Try.pinned (OpenSpec.upto scoreApartSpec)

/-- 'polyphonylaw15.ScoreTells', WHERE WHAT IT READS IS OF BULK AT MOST 1048576: true; the input reads as it did. -/
def scoreTellsUptoRow : OpenClaim := { program := "ytdmdahnnfancpaa", sum := "70754dc6bb99e42ae989688a26708a48f777e697f7647d74cfd31fbeb1b1c382", func := "polyphony/polyphonylaw15.ScoreTells", spec := "scoreTells", unfollowed := true, recurses := true, apart := false, narrowed := true }
def ScoreTellsUptoSaid : Prop := scoreTellsUptoRow.holds Try.pinned (OpenSpec.upto scoreTellsSpec)

/-- 'polyphonylaw15.ScoreOrder', WHERE WHAT IT READS IS OF BULK AT MOST 1048576: true; the input reads as it did. -/
def scoreOrderUptoRow : OpenClaim := { program := "ytdmdahnnfancpaa", sum := "70754dc6bb99e42ae989688a26708a48f777e697f7647d74cfd31fbeb1b1c382", func := "polyphony/polyphonylaw15.ScoreOrder", spec := "scoreOrder", unfollowed := true, recurses := true, apart := false, narrowed := true }
def ScoreOrderUptoSaid : Prop := scoreOrderUptoRow.holds Try.pinned (OpenSpec.upto scoreOrderSpec)

/-- 'polyphonylaw14.FieldTells', WHERE WHAT IT READS IS OF BULK AT MOST 1048576: true; the input reads as it did. -/
def fieldTellsUptoRow : OpenClaim := { program := "ytdmdahnnfancpaa", sum := "70754dc6bb99e42ae989688a26708a48f777e697f7647d74cfd31fbeb1b1c382", func := "polyphony/polyphonylaw14.FieldTells", spec := "fieldTells", unfollowed := true, recurses := true, apart := false, narrowed := true }
def FieldTellsUptoSaid : Prop := fieldTellsUptoRow.holds Try.pinned (OpenSpec.upto fieldTellsSpec)

/-- 'polyphonylaw14.FieldOrder', WHERE WHAT IT READS IS OF BULK AT MOST 1048576: true; the input reads as it did. -/
def fieldOrderUptoRow : OpenClaim := { program := "ytdmdahnnfancpaa", sum := "70754dc6bb99e42ae989688a26708a48f777e697f7647d74cfd31fbeb1b1c382", func := "polyphony/polyphonylaw14.FieldOrder", spec := "fieldOrder", unfollowed := true, recurses := true, apart := false, narrowed := true }
def FieldOrderUptoSaid : Prop := fieldOrderUptoRow.holds Try.pinned (OpenSpec.upto fieldOrderSpec)

/-- 'polyphonylaw14.FieldApart', WHERE WHAT IT READS IS OF BULK AT MOST 1048576: true; the input reads as it did. -/
def fieldApartUptoRow : OpenClaim := { program := "ytdmdahnnfancpaa", sum := "70754dc6bb99e42ae989688a26708a48f777e697f7647d74cfd31fbeb1b1c382", func := "polyphony/polyphonylaw14.FieldApart", spec := "fieldApart", unfollowed := true, recurses := true, apart := false, narrowed := true }
def FieldApartUptoSaid : Prop := fieldApartUptoRow.holds Try.pinned (OpenSpec.upto fieldApartSpec)

/-- 'polyphonylaw13.MemberTells', WHERE WHAT IT READS IS OF BULK AT MOST 1048576: true; the input reads as it did. -/
def memberTellsUptoRow : OpenClaim := { program := "ytdmdahnnfancpaa", sum := "70754dc6bb99e42ae989688a26708a48f777e697f7647d74cfd31fbeb1b1c382", func := "polyphony/polyphonylaw13.MemberTells", spec := "memberTells", unfollowed := true, recurses := true, apart := false, narrowed := true }
def MemberTellsUptoSaid : Prop := memberTellsUptoRow.holds Try.pinned (OpenSpec.upto memberTellsSpec)

/-- 'polyphonylaw13.MemberParts', WHERE WHAT IT READS IS OF BULK AT MOST 1048576: true; the input reads as it did. -/
def memberPartsUptoRow : OpenClaim := { program := "ytdmdahnnfancpaa", sum := "70754dc6bb99e42ae989688a26708a48f777e697f7647d74cfd31fbeb1b1c382", func := "polyphony/polyphonylaw13.MemberParts", spec := "memberParts", unfollowed := true, recurses := true, apart := false, narrowed := true }
def MemberPartsUptoSaid : Prop := memberPartsUptoRow.holds Try.pinned (OpenSpec.upto memberPartsSpec)

end Rows
end Go.Proofs.Ytdmdahnnfancpaa
