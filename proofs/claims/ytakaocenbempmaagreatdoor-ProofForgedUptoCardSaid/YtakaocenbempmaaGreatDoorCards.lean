/-
  DERIVED. GIVEN WITH THE SEED: THE CARDS: each row of YtakaocenbempmaaGreatDoorRows.lean that lists a variable, with what it lists TIED to the program's text (the seventh form; the later family's looks); each row that meets fmt, with fmt's text TOLD by the authors' own Lean function (tested against real Go, not proved from fmt's source: count such statements apart). THE CARD IS WHAT COUNTS. Prove the row's statement (the work); the ties are given (YtakaocenbempmaaGreatDoorTie.lean); close each card by the builder's one call (the guide's Derived/Test/ToyasCard.lean, 'card_holds'). Laid BY PROGRAM, IN A SANDBOX (cutbox-door.mjs). By AI agents, Wed Nov 11 2026. No macro, syntax, notation, axiom, sorry.
-/
import Derived.Test.YtakaocenbempmaaGreatDoorRows
import GoSem.ClaimSeven
namespace Go.Proofs.YtakaocenbempmaaGreatDoor
namespace Rows

/-- THE TIED CARD OF 'ledgerlaw12.ProofForged'. -/
def proofForgedCard : Claim7 := { stood := { row := proofForgedRow, standIns := [], harness := (true, "192ecc64ffda9e0acef3db8d7b201d0a48c538aff776cca4d7cdd995c9f9bb56"), looks := true }, kinds := [], alts := [], laidByText := true, laidKinds := [.data, .data, .data, .data], laidTests := true, laidLooks := .later }
def ProofForgedCardSaid : Prop := Claim7.holds Tryz.pinned (.plain (OpenSpec.ofChange proofForgedSpec)) proofForgedCard

/-- THE SECOND FORM's CARD OF 'ledgerlaw12.ProofForged'. -/
def proofForgedUptoCard : Claim7 := { stood := { row := proofForgedUptoRow, standIns := [], harness := (true, "192ecc64ffda9e0acef3db8d7b201d0a48c538aff776cca4d7cdd995c9f9bb56"), looks := true }, kinds := [], alts := [], laidByText := true, laidKinds := [.data, .data, .data, .data], laidTests := true, laidLooks := .later }
def ProofForgedUptoCardSaid : Prop := Claim7.holds Tryz.pinned (.plain (OpenSpec.upto proofForgedSpec)) proofForgedUptoCard
end Rows
end Go.Proofs.YtakaocenbempmaaGreatDoor
