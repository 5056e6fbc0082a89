/-
  DERIVED. GIVEN WITH THE SEED: THE CARDS: each row of YtacpaabhheejdaaDoorRows.lean that lists a variable, with what it lists TIED to the program's text (the seventh form; the later family's looks); each row that meets fmt, with fmt's text TOLD by the authors' own Lean function (tested against real Go, not proved from fmt's source: count such statements apart). THE CARD IS WHAT COUNTS. Prove the row's statement (the work); the ties are given (YtacpaabhheejdaaDoorTie.lean); close each card by the builder's one call (the guide's Derived/Test/ToyasCard.lean, 'card_holds'). Laid BY PROGRAM, IN A SANDBOX (cutbox-door.mjs). By AI agents, Wed Nov 11 2026. No macro, syntax, notation, axiom, sorry.
-/
import Derived.Test.YtacpaabhheejdaaDoorRows
import GoSem.ClaimSeven
namespace Go.Proofs.YtacpaabhheejdaaDoor
namespace Rows

/-- THE TIED CARD OF 'windrowlaw03.LexReads'. -/
def lexReadsCard : Claim7 := { stood := { row := lexReadsRow, standIns := [], harness := (true, "c1bd25f5551b31e484e631d2726fb6fc36744ee8cefc32a7491ea27f50d3bfee"), looks := true }, kinds := [], alts := [], laidByText := true, laidKinds := [.data, .data, .data, .data, .sentinel, .sentinel, .listed, .data, .pinned], laidTests := true, laidLooks := .later }
def LexReadsCardSaid : Prop := Claim7.holds Tryd.pinned (.plain (OpenSpec.ofChange lexReadsSpec)) lexReadsCard

/-- THE TIED CARD OF 'windrowlaw03.LexSpells'. -/
def lexSpellsCard : Claim7 := { stood := { row := lexSpellsRow, standIns := [], harness := (true, "c1bd25f5551b31e484e631d2726fb6fc36744ee8cefc32a7491ea27f50d3bfee"), looks := true }, kinds := [], alts := [], laidByText := true, laidKinds := [.data, .data, .data, .data, .sentinel, .sentinel, .listed, .data, .pinned], laidTests := true, laidLooks := .later }
def LexSpellsCardSaid : Prop := Claim7.holds Tryd.pinned (.plain (OpenSpec.ofChange lexSpellsSpec)) lexSpellsCard

/-- THE TIED CARD OF 'windrowlaw03.LexBack'. -/
def lexBackCard : Claim7 := { stood := { row := lexBackRow, standIns := [], harness := (true, "c1bd25f5551b31e484e631d2726fb6fc36744ee8cefc32a7491ea27f50d3bfee"), looks := true }, kinds := [], alts := [], laidByText := true, laidKinds := [.data, .data, .data, .data, .sentinel, .sentinel, .listed, .data, .pinned], laidTests := true, laidLooks := .later }
def LexBackCardSaid : Prop := Claim7.holds Tryd.pinned (.plain (OpenSpec.ofChange lexBackSpec)) lexBackCard

/-- THE TIED CARD OF 'windrowlaw03.LexCuts'. -/
def lexCutsCard : Claim7 := { stood := { row := lexCutsRow, standIns := [], harness := (true, "c1bd25f5551b31e484e631d2726fb6fc36744ee8cefc32a7491ea27f50d3bfee"), looks := true }, kinds := [], alts := [], laidByText := true, laidKinds := [.data, .data, .data, .data, .sentinel, .sentinel, .listed, .data, .pinned], laidTests := true, laidLooks := .later }
def LexCutsCardSaid : Prop := Claim7.holds Tryd.pinned (.plain (OpenSpec.ofChange lexCutsSpec)) lexCutsCard

/-- THE TIED CARD OF 'windrowlaw03.LexFaults'. -/
def lexFaultsCard : Claim7 := { stood := { row := lexFaultsRow, standIns := [], harness := (true, "c1bd25f5551b31e484e631d2726fb6fc36744ee8cefc32a7491ea27f50d3bfee"), looks := true }, kinds := [], alts := [], laidByText := true, laidKinds := [.data, .data, .data, .data, .sentinel, .sentinel, .listed, .data, .pinned], laidTests := true, laidLooks := .later }
def LexFaultsCardSaid : Prop := Claim7.holds Tryd.pinned (.plain (OpenSpec.ofChange lexFaultsSpec)) lexFaultsCard

/-- THE TIED CARD OF 'windrowlaw03.LexBlanks'. -/
def lexBlanksCard : Claim7 := { stood := { row := lexBlanksRow, standIns := [], harness := (true, "c1bd25f5551b31e484e631d2726fb6fc36744ee8cefc32a7491ea27f50d3bfee"), looks := true }, kinds := [], alts := [], laidByText := true, laidKinds := [.data, .data, .data, .data, .sentinel, .sentinel, .listed, .data, .pinned], laidTests := true, laidLooks := .later }
def LexBlanksCardSaid : Prop := Claim7.holds Tryd.pinned (.plain (OpenSpec.ofChange lexBlanksSpec)) lexBlanksCard

/-- THE TIED CARD OF 'windrowlaw03.LexJoins'. -/
def lexJoinsCard : Claim7 := { stood := { row := lexJoinsRow, standIns := [], harness := (true, "c1bd25f5551b31e484e631d2726fb6fc36744ee8cefc32a7491ea27f50d3bfee"), looks := true }, kinds := [], alts := [], laidByText := true, laidKinds := [.data, .data, .data, .data, .sentinel, .sentinel, .listed, .data, .pinned], laidTests := true, laidLooks := .later }
def LexJoinsCardSaid : Prop := Claim7.holds Tryd.pinned (.plain (OpenSpec.ofChange lexJoinsSpec)) lexJoinsCard

/-- THE TIED CARD OF 'windrowlaw03.LexNotes'. -/
def lexNotesCard : Claim7 := { stood := { row := lexNotesRow, standIns := [], harness := (true, "c1bd25f5551b31e484e631d2726fb6fc36744ee8cefc32a7491ea27f50d3bfee"), looks := true }, kinds := [], alts := [], laidByText := true, laidKinds := [.data, .data, .data, .data, .sentinel, .sentinel, .listed, .data, .pinned], laidTests := true, laidLooks := .later }
def LexNotesCardSaid : Prop := Claim7.holds Tryd.pinned (.plain (OpenSpec.ofChange lexNotesSpec)) lexNotesCard

/-- THE SECOND FORM's CARD OF 'windrowlaw03.LexReads'. -/
def lexReadsUptoCard : Claim7 := { stood := { row := lexReadsUptoRow, standIns := [], harness := (true, "c1bd25f5551b31e484e631d2726fb6fc36744ee8cefc32a7491ea27f50d3bfee"), looks := true }, kinds := [], alts := [], laidByText := true, laidKinds := [.data, .data, .data, .data, .sentinel, .sentinel, .listed, .data, .pinned], laidTests := true, laidLooks := .later }
def LexReadsUptoCardSaid : Prop := Claim7.holds Tryd.pinned (.plain (OpenSpec.upto lexReadsSpec)) lexReadsUptoCard

/-- THE SECOND FORM's CARD OF 'windrowlaw03.LexSpells'. -/
def lexSpellsUptoCard : Claim7 := { stood := { row := lexSpellsUptoRow, standIns := [], harness := (true, "c1bd25f5551b31e484e631d2726fb6fc36744ee8cefc32a7491ea27f50d3bfee"), looks := true }, kinds := [], alts := [], laidByText := true, laidKinds := [.data, .data, .data, .data, .sentinel, .sentinel, .listed, .data, .pinned], laidTests := true, laidLooks := .later }
def LexSpellsUptoCardSaid : Prop := Claim7.holds Tryd.pinned (.plain (OpenSpec.upto lexSpellsSpec)) lexSpellsUptoCard

/-- THE SECOND FORM's CARD OF 'windrowlaw03.LexBack'. -/
def lexBackUptoCard : Claim7 := { stood := { row := lexBackUptoRow, standIns := [], harness := (true, "c1bd25f5551b31e484e631d2726fb6fc36744ee8cefc32a7491ea27f50d3bfee"), looks := true }, kinds := [], alts := [], laidByText := true, laidKinds := [.data, .data, .data, .data, .sentinel, .sentinel, .listed, .data, .pinned], laidTests := true, laidLooks := .later }
def LexBackUptoCardSaid : Prop := Claim7.holds Tryd.pinned (.plain (OpenSpec.upto lexBackSpec)) lexBackUptoCard

/-- THE SECOND FORM's CARD OF 'windrowlaw03.LexCuts'. -/
def lexCutsUptoCard : Claim7 := { stood := { row := lexCutsUptoRow, standIns := [], harness := (true, "c1bd25f5551b31e484e631d2726fb6fc36744ee8cefc32a7491ea27f50d3bfee"), looks := true }, kinds := [], alts := [], laidByText := true, laidKinds := [.data, .data, .data, .data, .sentinel, .sentinel, .listed, .data, .pinned], laidTests := true, laidLooks := .later }
def LexCutsUptoCardSaid : Prop := Claim7.holds Tryd.pinned (.plain (OpenSpec.upto lexCutsSpec)) lexCutsUptoCard

/-- THE SECOND FORM's CARD OF 'windrowlaw03.LexFaults'. -/
def lexFaultsUptoCard : Claim7 := { stood := { row := lexFaultsUptoRow, standIns := [], harness := (true, "c1bd25f5551b31e484e631d2726fb6fc36744ee8cefc32a7491ea27f50d3bfee"), looks := true }, kinds := [], alts := [], laidByText := true, laidKinds := [.data, .data, .data, .data, .sentinel, .sentinel, .listed, .data, .pinned], laidTests := true, laidLooks := .later }
def LexFaultsUptoCardSaid : Prop := Claim7.holds Tryd.pinned (.plain (OpenSpec.upto lexFaultsSpec)) lexFaultsUptoCard

/-- THE SECOND FORM's CARD OF 'windrowlaw03.LexBlanks'. -/
def lexBlanksUptoCard : Claim7 := { stood := { row := lexBlanksUptoRow, standIns := [], harness := (true, "c1bd25f5551b31e484e631d2726fb6fc36744ee8cefc32a7491ea27f50d3bfee"), looks := true }, kinds := [], alts := [], laidByText := true, laidKinds := [.data, .data, .data, .data, .sentinel, .sentinel, .listed, .data, .pinned], laidTests := true, laidLooks := .later }
def LexBlanksUptoCardSaid : Prop := Claim7.holds Tryd.pinned (.plain (OpenSpec.upto lexBlanksSpec)) lexBlanksUptoCard

/-- THE SECOND FORM's CARD OF 'windrowlaw03.LexJoins'. -/
def lexJoinsUptoCard : Claim7 := { stood := { row := lexJoinsUptoRow, standIns := [], harness := (true, "c1bd25f5551b31e484e631d2726fb6fc36744ee8cefc32a7491ea27f50d3bfee"), looks := true }, kinds := [], alts := [], laidByText := true, laidKinds := [.data, .data, .data, .data, .sentinel, .sentinel, .listed, .data, .pinned], laidTests := true, laidLooks := .later }
def LexJoinsUptoCardSaid : Prop := Claim7.holds Tryd.pinned (.plain (OpenSpec.upto lexJoinsSpec)) lexJoinsUptoCard

/-- THE SECOND FORM's CARD OF 'windrowlaw03.LexNotes'. -/
def lexNotesUptoCard : Claim7 := { stood := { row := lexNotesUptoRow, standIns := [], harness := (true, "c1bd25f5551b31e484e631d2726fb6fc36744ee8cefc32a7491ea27f50d3bfee"), looks := true }, kinds := [], alts := [], laidByText := true, laidKinds := [.data, .data, .data, .data, .sentinel, .sentinel, .listed, .data, .pinned], laidTests := true, laidLooks := .later }
def LexNotesUptoCardSaid : Prop := Claim7.holds Tryd.pinned (.plain (OpenSpec.upto lexNotesSpec)) lexNotesUptoCard
end Rows
end Go.Proofs.YtacpaabhheejdaaDoor
