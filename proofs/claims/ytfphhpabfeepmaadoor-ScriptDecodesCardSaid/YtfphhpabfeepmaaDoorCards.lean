/-
  DERIVED. GIVEN WITH THE SEED: THE CARDS: each row of YtfphhpabfeepmaaDoorRows.lean that lists a variable, with what it lists TIED to the program's text (the seventh form; the later family's looks); each row that meets fmt, with fmt's text TOLD by the authors' own Lean function (tested against real Go, not proved from fmt's source: count such statements apart). THE CARD IS WHAT COUNTS. Prove the row's statement (the work); the ties are given (YtfphhpabfeepmaaDoorTie.lean); close each card by the builder's one call (the guide's Derived/Test/ToyasCard.lean, 'card_holds'). Laid BY PROGRAM, IN A SANDBOX (cutbox-door.mjs). By AI agents, Wed Nov 11 2026. No macro, syntax, notation, axiom, sorry.
-/
import Derived.Test.YtfphhpabfeepmaaDoorRows
import GoSem.ClaimSeven
namespace Go.Proofs.YtfphhpabfeepmaaDoor
namespace Rows

/-- THE TIED CARD OF 'polyphonylaw21.RespReplies'. -/
def respRepliesCard : Claim7 := { stood := { row := respRepliesRow, standIns := [], harness := (true, "e8dfab96d2ae150bed1f72dc934c26f1e79e3b7b2cdb8fcbf0355725d6c07371"), looks := true }, kinds := [], alts := [], laidByText := true, laidKinds := [.data, .data, .data, .data, .pinned], laidTests := true, laidLooks := .later }
def RespRepliesCardSaid : Prop := Claim7.holds Tryd.pinned (.plain (OpenSpec.ofChange respRepliesSpec)) respRepliesCard

/-- THE TIED CARD OF 'polyphonylaw21.RespParses'. -/
def respParsesCard : Claim7 := { stood := { row := respParsesRow, standIns := [], harness := (true, "e8dfab96d2ae150bed1f72dc934c26f1e79e3b7b2cdb8fcbf0355725d6c07371"), looks := true }, kinds := [], alts := [], laidByText := true, laidKinds := [.data, .data, .data, .data, .pinned], laidTests := true, laidLooks := .later }
def RespParsesCardSaid : Prop := Claim7.holds Tryd.pinned (.plain (OpenSpec.ofChange respParsesSpec)) respParsesCard

/-- THE TIED CARD OF 'polyphonylaw21.RespPieces'. -/
def respPiecesCard : Claim7 := { stood := { row := respPiecesRow, standIns := [], harness := (true, "e8dfab96d2ae150bed1f72dc934c26f1e79e3b7b2cdb8fcbf0355725d6c07371"), looks := true }, kinds := [], alts := [], laidByText := true, laidKinds := [.data, .data, .data, .data, .pinned], laidTests := true, laidLooks := .later }
def RespPiecesCardSaid : Prop := Claim7.holds Tryd.pinned (.plain (OpenSpec.ofChange respPiecesSpec)) respPiecesCard

/-- THE TIED CARD OF 'polyphonylaw21.RespBack'. -/
def respBackCard : Claim7 := { stood := { row := respBackRow, standIns := [], harness := (true, "e8dfab96d2ae150bed1f72dc934c26f1e79e3b7b2cdb8fcbf0355725d6c07371"), looks := true }, kinds := [], alts := [], laidByText := true, laidKinds := [.data, .data, .data, .data, .pinned], laidTests := true, laidLooks := .later }
def RespBackCardSaid : Prop := Claim7.holds Tryd.pinned (.plain (OpenSpec.ofChange respBackSpec)) respBackCard

/-- THE TIED CARD OF 'polyphonylaw21.RespLines'. -/
def respLinesCard : Claim7 := { stood := { row := respLinesRow, standIns := [], harness := (true, "e8dfab96d2ae150bed1f72dc934c26f1e79e3b7b2cdb8fcbf0355725d6c07371"), looks := true }, kinds := [], alts := [], laidByText := true, laidKinds := [.data, .data, .data, .data, .pinned], laidTests := true, laidLooks := .later }
def RespLinesCardSaid : Prop := Claim7.holds Tryd.pinned (.plain (OpenSpec.ofChange respLinesSpec)) respLinesCard

/-- THE TIED CARD OF 'polyphonylaw21.RespNil'. -/
def respNilCard : Claim7 := { stood := { row := respNilRow, standIns := [], harness := (true, "e8dfab96d2ae150bed1f72dc934c26f1e79e3b7b2cdb8fcbf0355725d6c07371"), looks := true }, kinds := [], alts := [], laidByText := true, laidKinds := [.data, .data, .data, .data, .pinned], laidTests := true, laidLooks := .later }
def RespNilCardSaid : Prop := Claim7.holds Tryd.pinned (.plain (OpenSpec.ofChange respNilSpec)) respNilCard

/-- THE TIED CARD OF 'polyphonylaw21.RespPrefix'. -/
def respPrefixCard : Claim7 := { stood := { row := respPrefixRow, standIns := [], harness := (true, "e8dfab96d2ae150bed1f72dc934c26f1e79e3b7b2cdb8fcbf0355725d6c07371"), looks := true }, kinds := [], alts := [], laidByText := true, laidKinds := [.data, .data, .data, .data, .pinned], laidTests := true, laidLooks := .later }
def RespPrefixCardSaid : Prop := Claim7.holds Tryd.pinned (.plain (OpenSpec.ofChange respPrefixSpec)) respPrefixCard

/-- THE TIED CARD OF 'polyphonylaw25.ScriptDecodes'. -/
def scriptDecodesCard : Claim7 := { stood := { row := scriptDecodesRow, standIns := [], harness := (true, "e8dfab96d2ae150bed1f72dc934c26f1e79e3b7b2cdb8fcbf0355725d6c07371"), looks := true }, kinds := [], alts := [], laidByText := true, laidKinds := [.data, .data, .data], laidTests := true, laidLooks := .later }
def ScriptDecodesCardSaid : Prop := Claim7.holds Tryd.pinned (.plain (OpenSpec.ofChange scriptDecodesSpec)) scriptDecodesCard

/-- THE TIED CARD OF 'polyphonylaw22.CommandParses'. -/
def commandParsesCard : Claim7 := { stood := { row := commandParsesRow, standIns := [], harness := (true, "e8dfab96d2ae150bed1f72dc934c26f1e79e3b7b2cdb8fcbf0355725d6c07371"), looks := true }, kinds := [], alts := [], laidByText := true, laidKinds := [.data, .data, .data, .data, .sentinel, .sentinel, .pinned], laidTests := true, laidLooks := .later }
def CommandParsesCardSaid : Prop := Claim7.holds Tryd.pinned (.plain (OpenSpec.ofChange commandParsesSpec)) commandParsesCard

/-- THE TIED CARD OF 'polyphonylaw22.CommandNames'. -/
def commandNamesCard : Claim7 := { stood := { row := commandNamesRow, standIns := [], harness := (true, "e8dfab96d2ae150bed1f72dc934c26f1e79e3b7b2cdb8fcbf0355725d6c07371"), looks := true }, kinds := [], alts := [], laidByText := true, laidKinds := [.data, .data, .data, .data, .sentinel, .sentinel, .pinned], laidTests := true, laidLooks := .later }
def CommandNamesCardSaid : Prop := Claim7.holds Tryd.pinned (.plain (OpenSpec.ofChange commandNamesSpec)) commandNamesCard

/-- THE SECOND FORM's CARD OF 'polyphonylaw21.RespReplies'. -/
def respRepliesUptoCard : Claim7 := { stood := { row := respRepliesUptoRow, standIns := [], harness := (true, "e8dfab96d2ae150bed1f72dc934c26f1e79e3b7b2cdb8fcbf0355725d6c07371"), looks := true }, kinds := [], alts := [], laidByText := true, laidKinds := [.data, .data, .data, .data, .pinned], laidTests := true, laidLooks := .later }
def RespRepliesUptoCardSaid : Prop := Claim7.holds Tryd.pinned (.plain (OpenSpec.upto respRepliesSpec)) respRepliesUptoCard

/-- THE SECOND FORM's CARD OF 'polyphonylaw21.RespParses'. -/
def respParsesUptoCard : Claim7 := { stood := { row := respParsesUptoRow, standIns := [], harness := (true, "e8dfab96d2ae150bed1f72dc934c26f1e79e3b7b2cdb8fcbf0355725d6c07371"), looks := true }, kinds := [], alts := [], laidByText := true, laidKinds := [.data, .data, .data, .data, .pinned], laidTests := true, laidLooks := .later }
def RespParsesUptoCardSaid : Prop := Claim7.holds Tryd.pinned (.plain (OpenSpec.upto respParsesSpec)) respParsesUptoCard

/-- THE SECOND FORM's CARD OF 'polyphonylaw21.RespPieces'. -/
def respPiecesUptoCard : Claim7 := { stood := { row := respPiecesUptoRow, standIns := [], harness := (true, "e8dfab96d2ae150bed1f72dc934c26f1e79e3b7b2cdb8fcbf0355725d6c07371"), looks := true }, kinds := [], alts := [], laidByText := true, laidKinds := [.data, .data, .data, .data, .pinned], laidTests := true, laidLooks := .later }
def RespPiecesUptoCardSaid : Prop := Claim7.holds Tryd.pinned (.plain (OpenSpec.upto respPiecesSpec)) respPiecesUptoCard

/-- THE SECOND FORM's CARD OF 'polyphonylaw21.RespBack'. -/
def respBackUptoCard : Claim7 := { stood := { row := respBackUptoRow, standIns := [], harness := (true, "e8dfab96d2ae150bed1f72dc934c26f1e79e3b7b2cdb8fcbf0355725d6c07371"), looks := true }, kinds := [], alts := [], laidByText := true, laidKinds := [.data, .data, .data, .data, .pinned], laidTests := true, laidLooks := .later }
def RespBackUptoCardSaid : Prop := Claim7.holds Tryd.pinned (.plain (OpenSpec.upto respBackSpec)) respBackUptoCard

/-- THE SECOND FORM's CARD OF 'polyphonylaw21.RespLines'. -/
def respLinesUptoCard : Claim7 := { stood := { row := respLinesUptoRow, standIns := [], harness := (true, "e8dfab96d2ae150bed1f72dc934c26f1e79e3b7b2cdb8fcbf0355725d6c07371"), looks := true }, kinds := [], alts := [], laidByText := true, laidKinds := [.data, .data, .data, .data, .pinned], laidTests := true, laidLooks := .later }
def RespLinesUptoCardSaid : Prop := Claim7.holds Tryd.pinned (.plain (OpenSpec.upto respLinesSpec)) respLinesUptoCard

/-- THE SECOND FORM's CARD OF 'polyphonylaw21.RespNil'. -/
def respNilUptoCard : Claim7 := { stood := { row := respNilUptoRow, standIns := [], harness := (true, "e8dfab96d2ae150bed1f72dc934c26f1e79e3b7b2cdb8fcbf0355725d6c07371"), looks := true }, kinds := [], alts := [], laidByText := true, laidKinds := [.data, .data, .data, .data, .pinned], laidTests := true, laidLooks := .later }
def RespNilUptoCardSaid : Prop := Claim7.holds Tryd.pinned (.plain (OpenSpec.upto respNilSpec)) respNilUptoCard

/-- THE SECOND FORM's CARD OF 'polyphonylaw21.RespPrefix'. -/
def respPrefixUptoCard : Claim7 := { stood := { row := respPrefixUptoRow, standIns := [], harness := (true, "e8dfab96d2ae150bed1f72dc934c26f1e79e3b7b2cdb8fcbf0355725d6c07371"), looks := true }, kinds := [], alts := [], laidByText := true, laidKinds := [.data, .data, .data, .data, .pinned], laidTests := true, laidLooks := .later }
def RespPrefixUptoCardSaid : Prop := Claim7.holds Tryd.pinned (.plain (OpenSpec.upto respPrefixSpec)) respPrefixUptoCard

/-- THE SECOND FORM's CARD OF 'polyphonylaw25.ScriptDecodes'. -/
def scriptDecodesUptoCard : Claim7 := { stood := { row := scriptDecodesUptoRow, standIns := [], harness := (true, "e8dfab96d2ae150bed1f72dc934c26f1e79e3b7b2cdb8fcbf0355725d6c07371"), looks := true }, kinds := [], alts := [], laidByText := true, laidKinds := [.data, .data, .data], laidTests := true, laidLooks := .later }
def ScriptDecodesUptoCardSaid : Prop := Claim7.holds Tryd.pinned (.plain (OpenSpec.upto scriptDecodesSpec)) scriptDecodesUptoCard

/-- THE SECOND FORM's CARD OF 'polyphonylaw22.CommandParses'. -/
def commandParsesUptoCard : Claim7 := { stood := { row := commandParsesUptoRow, standIns := [], harness := (true, "e8dfab96d2ae150bed1f72dc934c26f1e79e3b7b2cdb8fcbf0355725d6c07371"), looks := true }, kinds := [], alts := [], laidByText := true, laidKinds := [.data, .data, .data, .data, .sentinel, .sentinel, .pinned], laidTests := true, laidLooks := .later }
def CommandParsesUptoCardSaid : Prop := Claim7.holds Tryd.pinned (.plain (OpenSpec.upto commandParsesSpec)) commandParsesUptoCard

/-- THE SECOND FORM's CARD OF 'polyphonylaw22.CommandNames'. -/
def commandNamesUptoCard : Claim7 := { stood := { row := commandNamesUptoRow, standIns := [], harness := (true, "e8dfab96d2ae150bed1f72dc934c26f1e79e3b7b2cdb8fcbf0355725d6c07371"), looks := true }, kinds := [], alts := [], laidByText := true, laidKinds := [.data, .data, .data, .data, .sentinel, .sentinel, .pinned], laidTests := true, laidLooks := .later }
def CommandNamesUptoCardSaid : Prop := Claim7.holds Tryd.pinned (.plain (OpenSpec.upto commandNamesSpec)) commandNamesUptoCard
end Rows
end Go.Proofs.YtfphhpabfeepmaaDoor
