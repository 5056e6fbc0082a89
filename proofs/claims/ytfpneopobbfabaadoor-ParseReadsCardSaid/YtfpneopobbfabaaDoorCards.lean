/-
  DERIVED. GIVEN WITH THE SEED: THE CARDS: each row of YtfpneopobbfabaaDoorRows.lean that lists a variable, with what it lists TIED to the program's text (the seventh form; the later family's looks); each row that meets fmt, with fmt's text TOLD by the authors' own Lean function (tested against real Go, not proved from fmt's source: count such statements apart). THE CARD IS WHAT COUNTS. Prove the row's statement (the work); the ties are given (YtfpneopobbfabaaDoorTie.lean); close each card by the builder's one call (the guide's Derived/Test/ToyasCard.lean, 'card_holds'). Laid BY PROGRAM, IN A SANDBOX (cutbox-door.mjs). By AI agents, Wed Nov 11 2026. No macro, syntax, notation, axiom, sorry.
-/
import Derived.Test.YtfpneopobbfabaaDoorRows
import GoSem.ClaimSeven
namespace Go.Proofs.YtfpneopobbfabaaDoor
namespace Rows

/-- THE TIED CARD OF 'windrowlaw04.ParseReads'. -/
def parseReadsCard : Claim7 := { stood := { row := parseReadsRow, standIns := [], harness := (true, "08bdfd07e2d274bfe5a97607a7184f2e7bee6ea45be908b1045454e6172a59e6"), looks := true }, kinds := [], alts := [], laidByText := true, laidKinds := [.data, .data, .data, .sentinel, .sentinel], laidTests := true, laidLooks := .later }
def ParseReadsCardSaid : Prop := Claim7.holds Tryd.pinned (.plain (OpenSpec.ofChange parseReadsSpec)) parseReadsCard

/-- THE TIED CARD OF 'windrowlaw04.ParseVerbs'. -/
def parseVerbsCard : Claim7 := { stood := { row := parseVerbsRow, standIns := [], harness := (true, "08bdfd07e2d274bfe5a97607a7184f2e7bee6ea45be908b1045454e6172a59e6"), looks := true }, kinds := [], alts := [], laidByText := true, laidKinds := [.data, .data, .data, .sentinel, .sentinel], laidTests := true, laidLooks := .later }
def ParseVerbsCardSaid : Prop := Claim7.holds Tryd.pinned (.plain (OpenSpec.ofChange parseVerbsSpec)) parseVerbsCard

/-- THE TIED CARD OF 'windrowlaw04.ParseBlanks'. -/
def parseBlanksCard : Claim7 := { stood := { row := parseBlanksRow, standIns := [], harness := (true, "08bdfd07e2d274bfe5a97607a7184f2e7bee6ea45be908b1045454e6172a59e6"), looks := true }, kinds := [], alts := [], laidByText := true, laidKinds := [.data, .data, .data, .sentinel, .sentinel], laidTests := true, laidLooks := .later }
def ParseBlanksCardSaid : Prop := Claim7.holds Tryd.pinned (.plain (OpenSpec.ofChange parseBlanksSpec)) parseBlanksCard

/-- THE TIED CARD OF 'windrowlaw04.ParseBrackets'. -/
def parseBracketsCard : Claim7 := { stood := { row := parseBracketsRow, standIns := [], harness := (true, "08bdfd07e2d274bfe5a97607a7184f2e7bee6ea45be908b1045454e6172a59e6"), looks := true }, kinds := [], alts := [], laidByText := true, laidKinds := [.data, .data, .data, .sentinel, .sentinel], laidTests := true, laidLooks := .later }
def ParseBracketsCardSaid : Prop := Claim7.holds Tryd.pinned (.plain (OpenSpec.ofChange parseBracketsSpec)) parseBracketsCard

/-- THE TIED CARD OF 'windrowlaw04.ParseRight'. -/
def parseRightCard : Claim7 := { stood := { row := parseRightRow, standIns := [], harness := (true, "08bdfd07e2d274bfe5a97607a7184f2e7bee6ea45be908b1045454e6172a59e6"), looks := true }, kinds := [], alts := [], laidByText := true, laidKinds := [.data, .data, .data, .sentinel, .sentinel], laidTests := true, laidLooks := .later }
def ParseRightCardSaid : Prop := Claim7.holds Tryd.pinned (.plain (OpenSpec.ofChange parseRightSpec)) parseRightCard

/-- THE TIED CARD OF 'windrowlaw04.ParseLines'. -/
def parseLinesCard : Claim7 := { stood := { row := parseLinesRow, standIns := [], harness := (true, "08bdfd07e2d274bfe5a97607a7184f2e7bee6ea45be908b1045454e6172a59e6"), looks := true }, kinds := [], alts := [], laidByText := true, laidKinds := [.data, .data, .data, .sentinel, .sentinel], laidTests := true, laidLooks := .later }
def ParseLinesCardSaid : Prop := Claim7.holds Tryd.pinned (.plain (OpenSpec.ofChange parseLinesSpec)) parseLinesCard

/-- THE TIED CARD OF 'windrowlaw04.ParseFaults'. -/
def parseFaultsCard : Claim7 := { stood := { row := parseFaultsRow, standIns := [], harness := (true, "08bdfd07e2d274bfe5a97607a7184f2e7bee6ea45be908b1045454e6172a59e6"), looks := true }, kinds := [], alts := [], laidByText := true, laidKinds := [.data, .data, .data, .sentinel, .sentinel], laidTests := true, laidLooks := .later }
def ParseFaultsCardSaid : Prop := Claim7.holds Tryd.pinned (.plain (OpenSpec.ofChange parseFaultsSpec)) parseFaultsCard

/-- THE TIED CARD OF 'windrowlaw04.ParseFlat'. -/
def parseFlatCard : Claim7 := { stood := { row := parseFlatRow, standIns := [], harness := (true, "08bdfd07e2d274bfe5a97607a7184f2e7bee6ea45be908b1045454e6172a59e6"), looks := true }, kinds := [], alts := [], laidByText := true, laidKinds := [.data, .data, .data, .sentinel, .sentinel], laidTests := true, laidLooks := .later }
def ParseFlatCardSaid : Prop := Claim7.holds Tryd.pinned (.plain (OpenSpec.ofChange parseFlatSpec)) parseFlatCard

/-- THE SECOND FORM's CARD OF 'windrowlaw04.ParseReads'. -/
def parseReadsUptoCard : Claim7 := { stood := { row := parseReadsUptoRow, standIns := [], harness := (true, "08bdfd07e2d274bfe5a97607a7184f2e7bee6ea45be908b1045454e6172a59e6"), looks := true }, kinds := [], alts := [], laidByText := true, laidKinds := [.data, .data, .data, .sentinel, .sentinel], laidTests := true, laidLooks := .later }
def ParseReadsUptoCardSaid : Prop := Claim7.holds Tryd.pinned (.plain (OpenSpec.upto parseReadsSpec)) parseReadsUptoCard

/-- THE SECOND FORM's CARD OF 'windrowlaw04.ParseVerbs'. -/
def parseVerbsUptoCard : Claim7 := { stood := { row := parseVerbsUptoRow, standIns := [], harness := (true, "08bdfd07e2d274bfe5a97607a7184f2e7bee6ea45be908b1045454e6172a59e6"), looks := true }, kinds := [], alts := [], laidByText := true, laidKinds := [.data, .data, .data, .sentinel, .sentinel], laidTests := true, laidLooks := .later }
def ParseVerbsUptoCardSaid : Prop := Claim7.holds Tryd.pinned (.plain (OpenSpec.upto parseVerbsSpec)) parseVerbsUptoCard

/-- THE SECOND FORM's CARD OF 'windrowlaw04.ParseBlanks'. -/
def parseBlanksUptoCard : Claim7 := { stood := { row := parseBlanksUptoRow, standIns := [], harness := (true, "08bdfd07e2d274bfe5a97607a7184f2e7bee6ea45be908b1045454e6172a59e6"), looks := true }, kinds := [], alts := [], laidByText := true, laidKinds := [.data, .data, .data, .sentinel, .sentinel], laidTests := true, laidLooks := .later }
def ParseBlanksUptoCardSaid : Prop := Claim7.holds Tryd.pinned (.plain (OpenSpec.upto parseBlanksSpec)) parseBlanksUptoCard

/-- THE SECOND FORM's CARD OF 'windrowlaw04.ParseBrackets'. -/
def parseBracketsUptoCard : Claim7 := { stood := { row := parseBracketsUptoRow, standIns := [], harness := (true, "08bdfd07e2d274bfe5a97607a7184f2e7bee6ea45be908b1045454e6172a59e6"), looks := true }, kinds := [], alts := [], laidByText := true, laidKinds := [.data, .data, .data, .sentinel, .sentinel], laidTests := true, laidLooks := .later }
def ParseBracketsUptoCardSaid : Prop := Claim7.holds Tryd.pinned (.plain (OpenSpec.upto parseBracketsSpec)) parseBracketsUptoCard

/-- THE SECOND FORM's CARD OF 'windrowlaw04.ParseRight'. -/
def parseRightUptoCard : Claim7 := { stood := { row := parseRightUptoRow, standIns := [], harness := (true, "08bdfd07e2d274bfe5a97607a7184f2e7bee6ea45be908b1045454e6172a59e6"), looks := true }, kinds := [], alts := [], laidByText := true, laidKinds := [.data, .data, .data, .sentinel, .sentinel], laidTests := true, laidLooks := .later }
def ParseRightUptoCardSaid : Prop := Claim7.holds Tryd.pinned (.plain (OpenSpec.upto parseRightSpec)) parseRightUptoCard

/-- THE SECOND FORM's CARD OF 'windrowlaw04.ParseLines'. -/
def parseLinesUptoCard : Claim7 := { stood := { row := parseLinesUptoRow, standIns := [], harness := (true, "08bdfd07e2d274bfe5a97607a7184f2e7bee6ea45be908b1045454e6172a59e6"), looks := true }, kinds := [], alts := [], laidByText := true, laidKinds := [.data, .data, .data, .sentinel, .sentinel], laidTests := true, laidLooks := .later }
def ParseLinesUptoCardSaid : Prop := Claim7.holds Tryd.pinned (.plain (OpenSpec.upto parseLinesSpec)) parseLinesUptoCard

/-- THE SECOND FORM's CARD OF 'windrowlaw04.ParseFaults'. -/
def parseFaultsUptoCard : Claim7 := { stood := { row := parseFaultsUptoRow, standIns := [], harness := (true, "08bdfd07e2d274bfe5a97607a7184f2e7bee6ea45be908b1045454e6172a59e6"), looks := true }, kinds := [], alts := [], laidByText := true, laidKinds := [.data, .data, .data, .sentinel, .sentinel], laidTests := true, laidLooks := .later }
def ParseFaultsUptoCardSaid : Prop := Claim7.holds Tryd.pinned (.plain (OpenSpec.upto parseFaultsSpec)) parseFaultsUptoCard

/-- THE SECOND FORM's CARD OF 'windrowlaw04.ParseFlat'. -/
def parseFlatUptoCard : Claim7 := { stood := { row := parseFlatUptoRow, standIns := [], harness := (true, "08bdfd07e2d274bfe5a97607a7184f2e7bee6ea45be908b1045454e6172a59e6"), looks := true }, kinds := [], alts := [], laidByText := true, laidKinds := [.data, .data, .data, .sentinel, .sentinel], laidTests := true, laidLooks := .later }
def ParseFlatUptoCardSaid : Prop := Claim7.holds Tryd.pinned (.plain (OpenSpec.upto parseFlatSpec)) parseFlatUptoCard
end Rows
end Go.Proofs.YtfpneopobbfabaaDoor
