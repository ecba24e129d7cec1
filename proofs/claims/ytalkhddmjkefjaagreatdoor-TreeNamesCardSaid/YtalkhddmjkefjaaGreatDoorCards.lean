/-
  DERIVED. GIVEN WITH THE SEED: THE CARDS: each row of YtalkhddmjkefjaaGreatDoorRows.lean that lists a variable, with what it lists TIED to the program's text (the seventh form; the later family's looks); each row that meets fmt, with fmt's text TOLD by the authors' own Lean function (tested against real Go, not proved from fmt's source: count such statements apart). THE CARD IS WHAT COUNTS. Prove the row's statement (the work); the ties are given (YtalkhddmjkefjaaGreatDoorTie.lean); close each card by the builder's one call (the guide's Derived/Test/ToyasCard.lean, 'card_holds'). Laid BY PROGRAM, IN A SANDBOX (cutbox-door.mjs). By AI agents, Wed Nov 11 2026. No macro, syntax, notation, axiom, sorry.
-/
import Derived.Test.YtalkhddmjkefjaaGreatDoorRows
import GoSem.ClaimSeven
namespace Go.Proofs.YtalkhddmjkefjaaGreatDoor
namespace Rows

/-- THE TIED CARD OF 'ledgerlaw10.TreeNames'. -/
def treeNamesCard : Claim7 := { stood := { row := treeNamesRow, standIns := [], harness := (true, "3c48b54ad511b3a888024c3e6c51f8ff68599d4cb0500ba0b8abd075f09bbe2b"), looks := true }, kinds := [], alts := [], laidByText := true, laidKinds := [.data, .data], laidTests := true, laidLooks := .later }
def TreeNamesCardSaid : Prop := Claim7.holds Tryz.pinned (.plain (OpenSpec.ofChange treeNamesSpec)) treeNamesCard

/-- THE SECOND FORM's CARD OF 'ledgerlaw10.TreeNames'. -/
def treeNamesUptoCard : Claim7 := { stood := { row := treeNamesUptoRow, standIns := [], harness := (true, "3c48b54ad511b3a888024c3e6c51f8ff68599d4cb0500ba0b8abd075f09bbe2b"), looks := true }, kinds := [], alts := [], laidByText := true, laidKinds := [.data, .data], laidTests := true, laidLooks := .later }
def TreeNamesUptoCardSaid : Prop := Claim7.holds Tryz.pinned (.plain (OpenSpec.upto treeNamesSpec)) treeNamesUptoCard
end Rows
end Go.Proofs.YtalkhddmjkefjaaGreatDoor
