/-
  DERIVED. GIVEN WITH THE SEED: THE CARDS: each row of YtdmoiahaekooaaaDoorRows.lean that lists a variable, with what it lists TIED to the program's text (the seventh form; the later family's looks); each row that meets fmt, with fmt's text TOLD by the authors' own Lean function (tested against real Go, not proved from fmt's source: count such statements apart). THE CARD IS WHAT COUNTS. Prove the row's statement (the work); the ties are given (YtdmoiahaekooaaaDoorTie.lean); close each card by the builder's one call (the guide's Derived/Test/ToyasCard.lean, 'card_holds'). Laid BY PROGRAM, IN A SANDBOX (cutbox-door.mjs). By AI agents, Wed Nov 11 2026. No macro, syntax, notation, axiom, sorry.
-/
import Derived.Test.YtdmoiahaekooaaaDoorRows
import GoSem.ClaimSeven
namespace Go.Proofs.YtdmoiahaekooaaaDoor
namespace Rows

/-- THE TIED CARD OF 'windrowlaw16.IsaTexts'. -/
def isaTextsCard : Claim7 := { stood := { row := isaTextsRow, standIns := [], harness := (true, "b43c74af1225660cb6a69a2f1f4c981b3edcabe3ed4c05ea3363ffa5890d2eaf"), looks := true }, kinds := [], alts := [], laidByText := true, laidKinds := [.data, .data, .data, .data, .sentinel, .sentinel, .pinned], laidTests := true, laidLooks := .later }
def IsaTextsCardSaid : Prop := Claim7.holds Tryd.pinned (.plain (OpenSpec.ofChange isaTextsSpec)) isaTextsCard

/-- THE TIED CARD OF 'windrowlaw16.IsaReads'. -/
def isaReadsCard : Claim7 := { stood := { row := isaReadsRow, standIns := [], harness := (true, "b43c74af1225660cb6a69a2f1f4c981b3edcabe3ed4c05ea3363ffa5890d2eaf"), looks := true }, kinds := [], alts := [], laidByText := true, laidKinds := [.data, .data, .data, .data, .sentinel, .sentinel, .pinned], laidTests := true, laidLooks := .later }
def IsaReadsCardSaid : Prop := Claim7.holds Tryd.pinned (.plain (OpenSpec.ofChange isaReadsSpec)) isaReadsCard

/-- THE TIED CARD OF 'windrowlaw16.IsaUnlike'. -/
def isaUnlikeCard : Claim7 := { stood := { row := isaUnlikeRow, standIns := [], harness := (true, "b43c74af1225660cb6a69a2f1f4c981b3edcabe3ed4c05ea3363ffa5890d2eaf"), looks := true }, kinds := [], alts := [], laidByText := true, laidKinds := [.data, .data, .data, .data, .sentinel, .sentinel, .pinned], laidTests := true, laidLooks := .later }
def IsaUnlikeCardSaid : Prop := Claim7.holds Tryd.pinned (.plain (OpenSpec.ofChange isaUnlikeSpec)) isaUnlikeCard

/-- THE TIED CARD OF 'windrowlaw16.IsaKinds'. -/
def isaKindsCard : Claim7 := { stood := { row := isaKindsRow, standIns := [], harness := (true, "b43c74af1225660cb6a69a2f1f4c981b3edcabe3ed4c05ea3363ffa5890d2eaf"), looks := true }, kinds := [], alts := [], laidByText := true, laidKinds := [.data, .data, .data, .data, .sentinel, .sentinel, .pinned], laidTests := true, laidLooks := .later }
def IsaKindsCardSaid : Prop := Claim7.holds Tryd.pinned (.plain (OpenSpec.ofChange isaKindsSpec)) isaKindsCard

/-- THE TIED CARD OF 'windrowlaw16.IsaWords'. -/
def isaWordsCard : Claim7 := { stood := { row := isaWordsRow, standIns := [], harness := (true, "b43c74af1225660cb6a69a2f1f4c981b3edcabe3ed4c05ea3363ffa5890d2eaf"), looks := true }, kinds := [], alts := [], laidByText := true, laidKinds := [.data, .data, .data, .data, .sentinel, .sentinel, .pinned], laidTests := true, laidLooks := .later }
def IsaWordsCardSaid : Prop := Claim7.holds Tryd.pinned (.plain (OpenSpec.ofChange isaWordsSpec)) isaWordsCard

/-- THE TIED CARD OF 'windrowlaw16.IsaBack'. -/
def isaBackCard : Claim7 := { stood := { row := isaBackRow, standIns := [], harness := (true, "b43c74af1225660cb6a69a2f1f4c981b3edcabe3ed4c05ea3363ffa5890d2eaf"), looks := true }, kinds := [], alts := [], laidByText := true, laidKinds := [.data, .data, .data, .data, .sentinel, .sentinel, .pinned], laidTests := true, laidLooks := .later }
def IsaBackCardSaid : Prop := Claim7.holds Tryd.pinned (.plain (OpenSpec.ofChange isaBackSpec)) isaBackCard

/-- THE SECOND FORM's CARD OF 'windrowlaw16.IsaTexts'. -/
def isaTextsUptoCard : Claim7 := { stood := { row := isaTextsUptoRow, standIns := [], harness := (true, "b43c74af1225660cb6a69a2f1f4c981b3edcabe3ed4c05ea3363ffa5890d2eaf"), looks := true }, kinds := [], alts := [], laidByText := true, laidKinds := [.data, .data, .data, .data, .sentinel, .sentinel, .pinned], laidTests := true, laidLooks := .later }
def IsaTextsUptoCardSaid : Prop := Claim7.holds Tryd.pinned (.plain (OpenSpec.upto isaTextsSpec)) isaTextsUptoCard

/-- THE SECOND FORM's CARD OF 'windrowlaw16.IsaReads'. -/
def isaReadsUptoCard : Claim7 := { stood := { row := isaReadsUptoRow, standIns := [], harness := (true, "b43c74af1225660cb6a69a2f1f4c981b3edcabe3ed4c05ea3363ffa5890d2eaf"), looks := true }, kinds := [], alts := [], laidByText := true, laidKinds := [.data, .data, .data, .data, .sentinel, .sentinel, .pinned], laidTests := true, laidLooks := .later }
def IsaReadsUptoCardSaid : Prop := Claim7.holds Tryd.pinned (.plain (OpenSpec.upto isaReadsSpec)) isaReadsUptoCard

/-- THE SECOND FORM's CARD OF 'windrowlaw16.IsaUnlike'. -/
def isaUnlikeUptoCard : Claim7 := { stood := { row := isaUnlikeUptoRow, standIns := [], harness := (true, "b43c74af1225660cb6a69a2f1f4c981b3edcabe3ed4c05ea3363ffa5890d2eaf"), looks := true }, kinds := [], alts := [], laidByText := true, laidKinds := [.data, .data, .data, .data, .sentinel, .sentinel, .pinned], laidTests := true, laidLooks := .later }
def IsaUnlikeUptoCardSaid : Prop := Claim7.holds Tryd.pinned (.plain (OpenSpec.upto isaUnlikeSpec)) isaUnlikeUptoCard

/-- THE SECOND FORM's CARD OF 'windrowlaw16.IsaKinds'. -/
def isaKindsUptoCard : Claim7 := { stood := { row := isaKindsUptoRow, standIns := [], harness := (true, "b43c74af1225660cb6a69a2f1f4c981b3edcabe3ed4c05ea3363ffa5890d2eaf"), looks := true }, kinds := [], alts := [], laidByText := true, laidKinds := [.data, .data, .data, .data, .sentinel, .sentinel, .pinned], laidTests := true, laidLooks := .later }
def IsaKindsUptoCardSaid : Prop := Claim7.holds Tryd.pinned (.plain (OpenSpec.upto isaKindsSpec)) isaKindsUptoCard

/-- THE SECOND FORM's CARD OF 'windrowlaw16.IsaWords'. -/
def isaWordsUptoCard : Claim7 := { stood := { row := isaWordsUptoRow, standIns := [], harness := (true, "b43c74af1225660cb6a69a2f1f4c981b3edcabe3ed4c05ea3363ffa5890d2eaf"), looks := true }, kinds := [], alts := [], laidByText := true, laidKinds := [.data, .data, .data, .data, .sentinel, .sentinel, .pinned], laidTests := true, laidLooks := .later }
def IsaWordsUptoCardSaid : Prop := Claim7.holds Tryd.pinned (.plain (OpenSpec.upto isaWordsSpec)) isaWordsUptoCard

/-- THE SECOND FORM's CARD OF 'windrowlaw16.IsaBack'. -/
def isaBackUptoCard : Claim7 := { stood := { row := isaBackUptoRow, standIns := [], harness := (true, "b43c74af1225660cb6a69a2f1f4c981b3edcabe3ed4c05ea3363ffa5890d2eaf"), looks := true }, kinds := [], alts := [], laidByText := true, laidKinds := [.data, .data, .data, .data, .sentinel, .sentinel, .pinned], laidTests := true, laidLooks := .later }
def IsaBackUptoCardSaid : Prop := Claim7.holds Tryd.pinned (.plain (OpenSpec.upto isaBackSpec)) isaBackUptoCard
end Rows
end Go.Proofs.YtdmoiahaekooaaaDoor
