/-
  DERIVED. GIVEN WITH THE SEED: THE CARDS: each row of YtfdpoocdfbdhpaaGreatDoorRows.lean that lists a variable, with what it lists TIED to the program's text (the seventh form; the later family's looks); each row that meets fmt, with fmt's text TOLD by the authors' own Lean function (tested against real Go, not proved from fmt's source: count such statements apart). THE CARD IS WHAT COUNTS. Prove the row's statement (the work); the ties are given (YtfdpoocdfbdhpaaGreatDoorTie.lean); close each card by the builder's one call (the guide's Derived/Test/ToyasCard.lean, 'card_holds'). Laid BY PROGRAM, IN A SANDBOX (cutbox-door.mjs). By AI agents, Wed Nov 11 2026. No macro, syntax, notation, axiom, sorry.
-/
import Derived.Test.YtfdpoocdfbdhpaaGreatDoorRows
import GoSem.ClaimSeven
namespace Go.Proofs.YtfdpoocdfbdhpaaGreatDoor
namespace Rows

/-- THE TIED CARD OF 'screelaw06.WalNames'. -/
def walNamesCard : Claim7 := { stood := { row := walNamesRow, standIns := [], harness := (true, "a99be09bf02c41c9d5a7941200fa83c7a5e1568553cfb0bd599ad80e4c1c51ef"), looks := true }, kinds := [], alts := [], laidByText := true, laidKinds := [.data, .data, .data, .sentinel, .sentinel], laidTests := true, laidLooks := .later }
def WalNamesCardSaid : Prop := Claim7.holds Tryz.pinned (.plain (OpenSpec.ofChange walNamesSpec)) walNamesCard

/-- THE TIED CARD OF 'screelaw06.WalKeeps'. -/
def walKeepsCard : Claim7 := { stood := { row := walKeepsRow, standIns := [], harness := (true, "a99be09bf02c41c9d5a7941200fa83c7a5e1568553cfb0bd599ad80e4c1c51ef"), looks := true }, kinds := [], alts := [], laidByText := true, laidKinds := [.data, .data, .data, .sentinel, .sentinel], laidTests := true, laidLooks := .later }
def WalKeepsCardSaid : Prop := Claim7.holds Tryz.pinned (.plain (OpenSpec.ofChange walKeepsSpec)) walKeepsCard

/-- THE TIED CARD OF 'screelaw06.WalTwo'. -/
def walTwoCard : Claim7 := { stood := { row := walTwoRow, standIns := [], harness := (true, "a99be09bf02c41c9d5a7941200fa83c7a5e1568553cfb0bd599ad80e4c1c51ef"), looks := true }, kinds := [], alts := [], laidByText := true, laidKinds := [.data, .data, .data, .sentinel, .sentinel], laidTests := true, laidLooks := .later }
def WalTwoCardSaid : Prop := Claim7.holds Tryz.pinned (.plain (OpenSpec.ofChange walTwoSpec)) walTwoCard

/-- THE TIED CARD OF 'screelaw06.WalTail'. -/
def walTailCard : Claim7 := { stood := { row := walTailRow, standIns := [], harness := (true, "a99be09bf02c41c9d5a7941200fa83c7a5e1568553cfb0bd599ad80e4c1c51ef"), looks := true }, kinds := [], alts := [], laidByText := true, laidKinds := [.data, .data, .data, .sentinel, .sentinel], laidTests := true, laidLooks := .later }
def WalTailCardSaid : Prop := Claim7.holds Tryz.pinned (.plain (OpenSpec.ofChange walTailSpec)) walTailCard

/-- THE TIED CARD OF 'screelaw06.WalDoes'. -/
def walDoesCard : Claim7 := { stood := { row := walDoesRow, standIns := [], harness := (true, "a99be09bf02c41c9d5a7941200fa83c7a5e1568553cfb0bd599ad80e4c1c51ef"), looks := true }, kinds := [], alts := [], laidByText := true, laidKinds := [.data, .data, .data, .sentinel, .sentinel], laidTests := true, laidLooks := .later }
def WalDoesCardSaid : Prop := Claim7.holds Tryz.pinned (.plain (OpenSpec.ofChange walDoesSpec)) walDoesCard

/-- THE TIED CARD OF 'screelaw06.WalFull'. -/
def walFullCard : Claim7 := { stood := { row := walFullRow, standIns := [], harness := (true, "a99be09bf02c41c9d5a7941200fa83c7a5e1568553cfb0bd599ad80e4c1c51ef"), looks := true }, kinds := [], alts := [], laidByText := true, laidKinds := [.data, .data, .data, .sentinel, .sentinel], laidTests := true, laidLooks := .later }
def WalFullCardSaid : Prop := Claim7.holds Tryz.pinned (.plain (OpenSpec.ofChange walFullSpec)) walFullCard

/-- THE SECOND FORM's CARD OF 'screelaw06.WalNames'. -/
def walNamesUptoCard : Claim7 := { stood := { row := walNamesUptoRow, standIns := [], harness := (true, "a99be09bf02c41c9d5a7941200fa83c7a5e1568553cfb0bd599ad80e4c1c51ef"), looks := true }, kinds := [], alts := [], laidByText := true, laidKinds := [.data, .data, .data, .sentinel, .sentinel], laidTests := true, laidLooks := .later }
def WalNamesUptoCardSaid : Prop := Claim7.holds Tryz.pinned (.plain (OpenSpec.upto walNamesSpec)) walNamesUptoCard

/-- THE SECOND FORM's CARD OF 'screelaw06.WalKeeps'. -/
def walKeepsUptoCard : Claim7 := { stood := { row := walKeepsUptoRow, standIns := [], harness := (true, "a99be09bf02c41c9d5a7941200fa83c7a5e1568553cfb0bd599ad80e4c1c51ef"), looks := true }, kinds := [], alts := [], laidByText := true, laidKinds := [.data, .data, .data, .sentinel, .sentinel], laidTests := true, laidLooks := .later }
def WalKeepsUptoCardSaid : Prop := Claim7.holds Tryz.pinned (.plain (OpenSpec.upto walKeepsSpec)) walKeepsUptoCard

/-- THE SECOND FORM's CARD OF 'screelaw06.WalTwo'. -/
def walTwoUptoCard : Claim7 := { stood := { row := walTwoUptoRow, standIns := [], harness := (true, "a99be09bf02c41c9d5a7941200fa83c7a5e1568553cfb0bd599ad80e4c1c51ef"), looks := true }, kinds := [], alts := [], laidByText := true, laidKinds := [.data, .data, .data, .sentinel, .sentinel], laidTests := true, laidLooks := .later }
def WalTwoUptoCardSaid : Prop := Claim7.holds Tryz.pinned (.plain (OpenSpec.upto walTwoSpec)) walTwoUptoCard

/-- THE SECOND FORM's CARD OF 'screelaw06.WalTail'. -/
def walTailUptoCard : Claim7 := { stood := { row := walTailUptoRow, standIns := [], harness := (true, "a99be09bf02c41c9d5a7941200fa83c7a5e1568553cfb0bd599ad80e4c1c51ef"), looks := true }, kinds := [], alts := [], laidByText := true, laidKinds := [.data, .data, .data, .sentinel, .sentinel], laidTests := true, laidLooks := .later }
def WalTailUptoCardSaid : Prop := Claim7.holds Tryz.pinned (.plain (OpenSpec.upto walTailSpec)) walTailUptoCard

/-- THE SECOND FORM's CARD OF 'screelaw06.WalDoes'. -/
def walDoesUptoCard : Claim7 := { stood := { row := walDoesUptoRow, standIns := [], harness := (true, "a99be09bf02c41c9d5a7941200fa83c7a5e1568553cfb0bd599ad80e4c1c51ef"), looks := true }, kinds := [], alts := [], laidByText := true, laidKinds := [.data, .data, .data, .sentinel, .sentinel], laidTests := true, laidLooks := .later }
def WalDoesUptoCardSaid : Prop := Claim7.holds Tryz.pinned (.plain (OpenSpec.upto walDoesSpec)) walDoesUptoCard

/-- THE SECOND FORM's CARD OF 'screelaw06.WalFull'. -/
def walFullUptoCard : Claim7 := { stood := { row := walFullUptoRow, standIns := [], harness := (true, "a99be09bf02c41c9d5a7941200fa83c7a5e1568553cfb0bd599ad80e4c1c51ef"), looks := true }, kinds := [], alts := [], laidByText := true, laidKinds := [.data, .data, .data, .sentinel, .sentinel], laidTests := true, laidLooks := .later }
def WalFullUptoCardSaid : Prop := Claim7.holds Tryz.pinned (.plain (OpenSpec.upto walFullSpec)) walFullUptoCard
end Rows
end Go.Proofs.YtfdpoocdfbdhpaaGreatDoor
