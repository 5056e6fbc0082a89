/-
  DERIVED. GIVEN WITH THE SEED: THE CARDS: each row of YtknnleiinhdklaaGreatDoorRows.lean that lists a variable, with what it lists TIED to the program's text (the seventh form; the later family's looks); each row that meets fmt, with fmt's text TOLD by the authors' own Lean function (tested against real Go, not proved from fmt's source: count such statements apart). THE CARD IS WHAT COUNTS. Prove the row's statement (the work); the ties are given (YtknnleiinhdklaaGreatDoorTie.lean); close each card by the builder's one call (the guide's Derived/Test/ToyasCard.lean, 'card_holds'). Laid BY PROGRAM, IN A SANDBOX (cutbox-door.mjs). By AI agents, Wed Nov 11 2026. No macro, syntax, notation, axiom, sorry.
-/
import Derived.Test.YtknnleiinhdklaaGreatDoorRows
import GoSem.ClaimSeven
namespace Go.Proofs.YtknnleiinhdklaaGreatDoor
namespace Rows

/-- THE TIED CARD OF 'windrowtop.TopTwice'. -/
def topTwiceCard : Claim7 := { stood := { row := topTwiceRow, standIns := [], harness := (true, "c2f67fa84b6696cfbaaa2abad142b888a469384ad079f8376e7a95c0c05cf81e"), looks := true }, kinds := [], alts := [], laidByText := true, laidKinds := [.data, .data, .data, .data, .sentinel, .sentinel, .listed, .data, .pinned], laidTests := true, laidLooks := .later }
def TopTwiceCardSaid : Prop := Claim7.holds Tryz.pinned (.plain (OpenSpec.ofChange topTwiceSpec)) topTwiceCard

/-- THE TIED CARD OF 'windrowtop.TopSums'. -/
def topSumsCard : Claim7 := { stood := { row := topSumsRow, standIns := [], harness := (true, "c2f67fa84b6696cfbaaa2abad142b888a469384ad079f8376e7a95c0c05cf81e"), looks := true }, kinds := [], alts := [], laidByText := true, laidKinds := [.data, .data, .data, .data, .sentinel, .sentinel, .listed, .data, .pinned], laidTests := true, laidLooks := .later }
def TopSumsCardSaid : Prop := Claim7.holds Tryz.pinned (.plain (OpenSpec.ofChange topSumsSpec)) topSumsCard

/-- THE TIED CARD OF 'windrowtop.TopShapes'. -/
def topShapesCard : Claim7 := { stood := { row := topShapesRow, standIns := [], harness := (true, "c2f67fa84b6696cfbaaa2abad142b888a469384ad079f8376e7a95c0c05cf81e"), looks := true }, kinds := [], alts := [], laidByText := true, laidKinds := [.data, .data, .data, .data, .sentinel, .sentinel, .listed, .data, .pinned], laidTests := true, laidLooks := .later }
def TopShapesCardSaid : Prop := Claim7.holds Tryz.pinned (.plain (OpenSpec.ofChange topShapesSpec)) topShapesCard

/-- THE TIED CARD OF 'windrowtop.TopParts'. -/
def topPartsCard : Claim7 := { stood := { row := topPartsRow, standIns := [], harness := (true, "c2f67fa84b6696cfbaaa2abad142b888a469384ad079f8376e7a95c0c05cf81e"), looks := true }, kinds := [], alts := [], laidByText := true, laidKinds := [.data, .data, .data, .data, .sentinel, .sentinel, .listed, .data, .pinned], laidTests := true, laidLooks := .later }
def TopPartsCardSaid : Prop := Claim7.holds Tryz.pinned (.plain (OpenSpec.ofChange topPartsSpec)) topPartsCard

/-- THE SECOND FORM's CARD OF 'windrowtop.TopTwice'. -/
def topTwiceUptoCard : Claim7 := { stood := { row := topTwiceUptoRow, standIns := [], harness := (true, "c2f67fa84b6696cfbaaa2abad142b888a469384ad079f8376e7a95c0c05cf81e"), looks := true }, kinds := [], alts := [], laidByText := true, laidKinds := [.data, .data, .data, .data, .sentinel, .sentinel, .listed, .data, .pinned], laidTests := true, laidLooks := .later }
def TopTwiceUptoCardSaid : Prop := Claim7.holds Tryz.pinned (.plain (OpenSpec.upto topTwiceSpec)) topTwiceUptoCard

/-- THE SECOND FORM's CARD OF 'windrowtop.TopSums'. -/
def topSumsUptoCard : Claim7 := { stood := { row := topSumsUptoRow, standIns := [], harness := (true, "c2f67fa84b6696cfbaaa2abad142b888a469384ad079f8376e7a95c0c05cf81e"), looks := true }, kinds := [], alts := [], laidByText := true, laidKinds := [.data, .data, .data, .data, .sentinel, .sentinel, .listed, .data, .pinned], laidTests := true, laidLooks := .later }
def TopSumsUptoCardSaid : Prop := Claim7.holds Tryz.pinned (.plain (OpenSpec.upto topSumsSpec)) topSumsUptoCard

/-- THE SECOND FORM's CARD OF 'windrowtop.TopShapes'. -/
def topShapesUptoCard : Claim7 := { stood := { row := topShapesUptoRow, standIns := [], harness := (true, "c2f67fa84b6696cfbaaa2abad142b888a469384ad079f8376e7a95c0c05cf81e"), looks := true }, kinds := [], alts := [], laidByText := true, laidKinds := [.data, .data, .data, .data, .sentinel, .sentinel, .listed, .data, .pinned], laidTests := true, laidLooks := .later }
def TopShapesUptoCardSaid : Prop := Claim7.holds Tryz.pinned (.plain (OpenSpec.upto topShapesSpec)) topShapesUptoCard

/-- THE SECOND FORM's CARD OF 'windrowtop.TopParts'. -/
def topPartsUptoCard : Claim7 := { stood := { row := topPartsUptoRow, standIns := [], harness := (true, "c2f67fa84b6696cfbaaa2abad142b888a469384ad079f8376e7a95c0c05cf81e"), looks := true }, kinds := [], alts := [], laidByText := true, laidKinds := [.data, .data, .data, .data, .sentinel, .sentinel, .listed, .data, .pinned], laidTests := true, laidLooks := .later }
def TopPartsUptoCardSaid : Prop := Claim7.holds Tryz.pinned (.plain (OpenSpec.upto topPartsSpec)) topPartsUptoCard
end Rows
end Go.Proofs.YtknnleiinhdklaaGreatDoor
