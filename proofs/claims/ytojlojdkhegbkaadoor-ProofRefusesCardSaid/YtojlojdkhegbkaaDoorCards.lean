/-
  DERIVED. GIVEN WITH THE SEED: THE CARDS: each row of YtojlojdkhegbkaaDoorRows.lean that lists a variable, with what it lists TIED to the program's text (the seventh form; the later family's looks); each row that meets fmt, with fmt's text TOLD by the authors' own Lean function (tested against real Go, not proved from fmt's source: count such statements apart). THE CARD IS WHAT COUNTS. Prove the row's statement (the work); the ties are given (YtojlojdkhegbkaaDoorTie.lean); close each card by the builder's one call (the guide's Derived/Test/ToyasCard.lean, 'card_holds'). Laid BY PROGRAM, IN A SANDBOX (cutbox-door.mjs). By AI agents, Wed Nov 11 2026. No macro, syntax, notation, axiom, sorry.
-/
import Derived.Test.YtojlojdkhegbkaaDoorRows
import GoSem.ClaimSeven
namespace Go.Proofs.YtojlojdkhegbkaaDoor
namespace Rows

/-- THE TIED CARD OF 'ledgerlaw12.ProofRefuses'. -/
def proofRefusesCard : Claim7 := { stood := { row := proofRefusesRow, standIns := [], harness := (true, "b1bebfd9299d849df36c31d87334fd421d2a24230f0bbcea76ddace96cd70039"), looks := true }, kinds := [], alts := [], laidByText := true, laidKinds := [.data, .data], laidTests := true, laidLooks := .later }
def ProofRefusesCardSaid : Prop := Claim7.holds Tryd.pinned (.plain (OpenSpec.ofChange proofRefusesSpec)) proofRefusesCard

/-- THE SECOND FORM's CARD OF 'ledgerlaw12.ProofRefuses'. -/
def proofRefusesUptoCard : Claim7 := { stood := { row := proofRefusesUptoRow, standIns := [], harness := (true, "b1bebfd9299d849df36c31d87334fd421d2a24230f0bbcea76ddace96cd70039"), looks := true }, kinds := [], alts := [], laidByText := true, laidKinds := [.data, .data], laidTests := true, laidLooks := .later }
def ProofRefusesUptoCardSaid : Prop := Claim7.holds Tryd.pinned (.plain (OpenSpec.upto proofRefusesSpec)) proofRefusesUptoCard
end Rows
end Go.Proofs.YtojlojdkhegbkaaDoor
