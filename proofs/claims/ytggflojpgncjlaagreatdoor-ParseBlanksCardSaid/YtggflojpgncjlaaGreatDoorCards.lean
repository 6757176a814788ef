/-
  DERIVED. GIVEN WITH THE SEED: THE CARDS: each row of YtggflojpgncjlaaGreatDoorRows.lean that lists a variable, with what it lists TIED to the program's text (the seventh form; the later family's looks); each row that meets fmt, with fmt's text TOLD by the authors' own Lean function (tested against real Go, not proved from fmt's source: count such statements apart). THE CARD IS WHAT COUNTS. Prove the row's statement (the work); the ties are given (YtggflojpgncjlaaGreatDoorTie.lean); close each card by the builder's one call (the guide's Derived/Test/ToyasCard.lean, 'card_holds'). Laid BY PROGRAM, IN A SANDBOX (cutbox-door.mjs). By AI agents, Wed Nov 11 2026. No macro, syntax, notation, axiom, sorry.
-/
import Derived.Test.YtggflojpgncjlaaGreatDoorRows
import GoSem.ClaimSeven
namespace Go.Proofs.YtggflojpgncjlaaGreatDoor
namespace Rows

/-- THE TIED CARD OF 'stratagemlaw09.ParseMay'. -/
def parseMayCard : Claim7 := { stood := { row := parseMayRow, standIns := [], harness := (true, "04e0ba00bbcc5b02320283cd8bb1348b5b1953519bc3ca05bb0e8487584b1889"), looks := true }, kinds := [], alts := [], laidByText := true, laidKinds := [.data, .pinned], laidTests := true, laidLooks := .later }
def ParseMayCardSaid : Prop := Claim7.holds Tryz.pinned (.plain (OpenSpec.ofChange parseMaySpec)) parseMayCard

/-- THE TIED CARD OF 'stratagemlaw09.ParseCut'. -/
def parseCutCard : Claim7 := { stood := { row := parseCutRow, standIns := [], harness := (true, "04e0ba00bbcc5b02320283cd8bb1348b5b1953519bc3ca05bb0e8487584b1889"), looks := true }, kinds := [], alts := [], laidByText := true, laidKinds := [.data, .pinned], laidTests := true, laidLooks := .later }
def ParseCutCardSaid : Prop := Claim7.holds Tryz.pinned (.plain (OpenSpec.ofChange parseCutSpec)) parseCutCard

/-- THE TIED CARD OF 'stratagemlaw09.ParseBlanks'. -/
def parseBlanksCard : Claim7 := { stood := { row := parseBlanksRow, standIns := [], harness := (true, "04e0ba00bbcc5b02320283cd8bb1348b5b1953519bc3ca05bb0e8487584b1889"), looks := true }, kinds := [], alts := [], laidByText := true, laidKinds := [.data, .pinned], laidTests := true, laidLooks := .later }
def ParseBlanksCardSaid : Prop := Claim7.holds Tryz.pinned (.plain (OpenSpec.ofChange parseBlanksSpec)) parseBlanksCard

/-- THE SECOND FORM's CARD OF 'stratagemlaw09.ParseMay'. -/
def parseMayUptoCard : Claim7 := { stood := { row := parseMayUptoRow, standIns := [], harness := (true, "04e0ba00bbcc5b02320283cd8bb1348b5b1953519bc3ca05bb0e8487584b1889"), looks := true }, kinds := [], alts := [], laidByText := true, laidKinds := [.data, .pinned], laidTests := true, laidLooks := .later }
def ParseMayUptoCardSaid : Prop := Claim7.holds Tryz.pinned (.plain (OpenSpec.upto parseMaySpec)) parseMayUptoCard

/-- THE SECOND FORM's CARD OF 'stratagemlaw09.ParseCut'. -/
def parseCutUptoCard : Claim7 := { stood := { row := parseCutUptoRow, standIns := [], harness := (true, "04e0ba00bbcc5b02320283cd8bb1348b5b1953519bc3ca05bb0e8487584b1889"), looks := true }, kinds := [], alts := [], laidByText := true, laidKinds := [.data, .pinned], laidTests := true, laidLooks := .later }
def ParseCutUptoCardSaid : Prop := Claim7.holds Tryz.pinned (.plain (OpenSpec.upto parseCutSpec)) parseCutUptoCard

/-- THE SECOND FORM's CARD OF 'stratagemlaw09.ParseBlanks'. -/
def parseBlanksUptoCard : Claim7 := { stood := { row := parseBlanksUptoRow, standIns := [], harness := (true, "04e0ba00bbcc5b02320283cd8bb1348b5b1953519bc3ca05bb0e8487584b1889"), looks := true }, kinds := [], alts := [], laidByText := true, laidKinds := [.data, .pinned], laidTests := true, laidLooks := .later }
def ParseBlanksUptoCardSaid : Prop := Claim7.holds Tryz.pinned (.plain (OpenSpec.upto parseBlanksSpec)) parseBlanksUptoCard
end Rows
end Go.Proofs.YtggflojpgncjlaaGreatDoor
