/-
  No cell of these rows narrows 'for every input' (looked for: loops, veiled, ifaces, maps, wideKeys, modest, calm, conditions, laid).
  DERIVED. THE GIVEN ROWS OF THIS SEAT. 6 by the template 'for every input the law returns true; each argument reads behind the call as it read before'; 0 by the template 'total and deterministic' (their statements: YtnobhfpjchofpaaTotals.lean).
  GIVEN WITH THE SEED: the statements are not yours to turn. If you find one false, say at which input.
  Laid BY PROGRAM, IN A SANDBOX (cutbox-rows.mjs): the forced cells as the released guide's own fill.sh prints them over the translation 12a7107f3a365887… (all of the seat's roots in one cut). By AI agents, Wed Nov 11 2026. No macro, syntax, notation, axiom, sorry.
-/
import Derived.Test.YtnobhfpjchofpaaChecked
import GoSem.Claim
import GoSem.ClaimJoined
import GoSem.ClaimMapViews
import Derived.JoinedTies
import Derived.KernelRfl
namespace Go.Proofs.Ytnobhfpjchofpaa
/- THE CELL 'sum', in the pinned program and in every row, IS THE sha256 OF THE DUMP (.gsa) THAT YtnobhfpjchofpaaProg.lean LOADS. Nothing in Lean hashes anything: it is a label: what it is worth is what the hold of that sum in a sandbox is worth. -/
noncomputable def Try.pinned : Pinned := { name := "ytnobhfpjchofpaa", sum := "12a7107f3a36588792c761ec0346e9b1fe0c4dc4816f19e6d5248730dd7863ee", checked := Try.checked }
namespace Rows
def none {H : Type} : Left H := { results := [], args := [] }

/-- 'ledgerlaw12.ProofNames': WHATEVER THE INPUT: true; the input reads as it did. -/
def proofNamesSpec : ChangeSpec := { name := "proofNames", fn := fun _ => fun
  | [] => { results := [.lit (.bool true)], args := [] }
  | _ => none }
def proofNamesRow : OpenClaim := { program := "ytnobhfpjchofpaa", sum := "12a7107f3a36588792c761ec0346e9b1fe0c4dc4816f19e6d5248730dd7863ee", func := "ledger/ledgerlaw12.ProofNames", spec := "proofNames", apart := false }
def ProofNamesSaid : Prop := proofNamesRow.holds Try.pinned (OpenSpec.ofChange proofNamesSpec)

/-- ITS FALSE NEIGHBOUR: 'it returns false'. Refute it at one input. -/
def proofNamesWrong : ChangeSpec := { name := "proofNames", fn := fun _ => fun
  | [] => { results := [.lit (.bool false)], args := [] }
  | _ => none }
def ProofNamesWrongFalsely : Prop := proofNamesRow.holds Try.pinned (OpenSpec.ofChange proofNamesWrong)

/-- 'ledgerlaw12.ProofEncodes': WHATEVER THE INPUT: true; the input reads as it did. -/
def proofEncodesSpec : ChangeSpec := { name := "proofEncodes", fn := fun _ => fun
  | [d] => { results := [.lit (.bool true)], args := [d] }
  | _ => none }
def proofEncodesRow : OpenClaim := { program := "ytnobhfpjchofpaa", sum := "12a7107f3a36588792c761ec0346e9b1fe0c4dc4816f19e6d5248730dd7863ee", func := "ledger/ledgerlaw12.ProofEncodes", spec := "proofEncodes", apart := false }
def ProofEncodesSaid : Prop := proofEncodesRow.holds Try.pinned (OpenSpec.ofChange proofEncodesSpec)

/-- ITS FALSE NEIGHBOUR: 'it returns false'. Refute it at one input. -/
def proofEncodesWrong : ChangeSpec := { name := "proofEncodes", fn := fun _ => fun
  | [d] => { results := [.lit (.bool false)], args := [d] }
  | _ => none }
def ProofEncodesWrongFalsely : Prop := proofEncodesRow.holds Try.pinned (OpenSpec.ofChange proofEncodesWrong)

/-- 'ledgerlaw12.ProofDecodes': WHATEVER THE INPUT: true; the input reads as it did. -/
def proofDecodesSpec : ChangeSpec := { name := "proofDecodes", fn := fun _ => fun
  | [d] => { results := [.lit (.bool true)], args := [d] }
  | _ => none }
def proofDecodesRow : OpenClaim := { program := "ytnobhfpjchofpaa", sum := "12a7107f3a36588792c761ec0346e9b1fe0c4dc4816f19e6d5248730dd7863ee", func := "ledger/ledgerlaw12.ProofDecodes", spec := "proofDecodes", apart := false }
def ProofDecodesSaid : Prop := proofDecodesRow.holds Try.pinned (OpenSpec.ofChange proofDecodesSpec)

/-- ITS FALSE NEIGHBOUR: 'it returns false'. Refute it at one input. -/
def proofDecodesWrong : ChangeSpec := { name := "proofDecodes", fn := fun _ => fun
  | [d] => { results := [.lit (.bool false)], args := [d] }
  | _ => none }
def ProofDecodesWrongFalsely : Prop := proofDecodesRow.holds Try.pinned (OpenSpec.ofChange proofDecodesWrong)

/-- 'ledgerlaw12.ProofTexts': WHATEVER THE INPUT: true; the input reads as it did. -/
def proofTextsSpec : ChangeSpec := { name := "proofTexts", fn := fun _ => fun
  | [d] => { results := [.lit (.bool true)], args := [d] }
  | _ => none }
def proofTextsRow : OpenClaim := { program := "ytnobhfpjchofpaa", sum := "12a7107f3a36588792c761ec0346e9b1fe0c4dc4816f19e6d5248730dd7863ee", func := "ledger/ledgerlaw12.ProofTexts", spec := "proofTexts", apart := false }
def ProofTextsSaid : Prop := proofTextsRow.holds Try.pinned (OpenSpec.ofChange proofTextsSpec)

/-- ITS FALSE NEIGHBOUR: 'it returns false'. Refute it at one input. -/
def proofTextsWrong : ChangeSpec := { name := "proofTexts", fn := fun _ => fun
  | [d] => { results := [.lit (.bool false)], args := [d] }
  | _ => none }
def ProofTextsWrongFalsely : Prop := proofTextsRow.holds Try.pinned (OpenSpec.ofChange proofTextsWrong)

/-- 'ledgerlaw12.ProofBack': WHATEVER THE INPUT: true; the input reads as it did. -/
def proofBackSpec : ChangeSpec := { name := "proofBack", fn := fun _ => fun
  | [d1, d2] => { results := [.lit (.bool true)], args := [d1, d2] }
  | _ => none }
def proofBackRow : OpenClaim := { program := "ytnobhfpjchofpaa", sum := "12a7107f3a36588792c761ec0346e9b1fe0c4dc4816f19e6d5248730dd7863ee", func := "ledger/ledgerlaw12.ProofBack", spec := "proofBack", apart := false }
def ProofBackSaid : Prop := proofBackRow.holds Try.pinned (OpenSpec.ofChange proofBackSpec)

/-- ITS FALSE NEIGHBOUR: 'it returns false'. Refute it at one input. -/
def proofBackWrong : ChangeSpec := { name := "proofBack", fn := fun _ => fun
  | [d1, d2] => { results := [.lit (.bool false)], args := [d1, d2] }
  | _ => none }
def ProofBackWrongFalsely : Prop := proofBackRow.holds Try.pinned (OpenSpec.ofChange proofBackWrong)

/-- 'ledgerlaw12.ProofCuts': WHATEVER THE INPUT: true; the input reads as it did. -/
def proofCutsSpec : ChangeSpec := { name := "proofCuts", fn := fun _ => fun
  | [d1, d2, d3] => { results := [.lit (.bool true)], args := [d1, d2, d3] }
  | _ => none }
def proofCutsRow : OpenClaim := { program := "ytnobhfpjchofpaa", sum := "12a7107f3a36588792c761ec0346e9b1fe0c4dc4816f19e6d5248730dd7863ee", func := "ledger/ledgerlaw12.ProofCuts", spec := "proofCuts", apart := false }
def ProofCutsSaid : Prop := proofCutsRow.holds Try.pinned (OpenSpec.ofChange proofCutsSpec)

/-- ITS FALSE NEIGHBOUR: 'it returns false'. Refute it at one input. -/
def proofCutsWrong : ChangeSpec := { name := "proofCuts", fn := fun _ => fun
  | [d1, d2, d3] => { results := [.lit (.bool false)], args := [d1, d2, d3] }
  | _ => none }
def ProofCutsWrongFalsely : Prop := proofCutsRow.holds Try.pinned (OpenSpec.ofChange proofCutsWrong)

/- THE SECOND FORM. 'bulk': how many values and letters a reading holds, each counted each time it is reached (what is shared counts as often as it is met; a slice's spare places count too). A statement '..UptoSaid' is the law's where the arguments, and the package variables that the reading takes, are together of bulk at most 1048576: NARROWER than '..Said'. Prove '..Said' where nothing that the law and all that it calls make is longer than what came in: it says more and counts as full. Else prove '..UptoSaid'. A law counts once. -/
mutual
def uptoBulk {H : Type} : DataW H → Nat
  | .lit (.string bytes) => bytes.length + 1
  | .lit _ => 1
  | .nil => 1
  | .ptr d => uptoBulk d + 1
  | .slice elems spare => uptoBulkAll elems + uptoBulkAll spare + 1
  | .agg parts => uptoBulkAll parts + 1
  | .iface _ d => uptoBulk d + 1
  | .map entries => uptoBulkEntries entries + 1
  | .held _ => 1
def uptoBulkAll {H : Type} : List (DataW H) → Nat
  | [] => 0
  | d :: r => uptoBulk d + uptoBulkAll r
def uptoBulkEntries {H : Type} : List (Lit × DataW H) → Nat
  | [] => 0
  | x :: r => uptoBulkEntry x + uptoBulkEntries r
def uptoBulkEntry {H : Type} : Lit × DataW H → Nat
  | (.string bytes, d) => bytes.length + uptoBulk d + 1
  | (_, d) => uptoBulk d + 1
 end
def uptoSmall : (H : Type) → List (DataW H) → Bool := fun _ ds => decide (uptoBulkAll ds ≤ 1048576)
def OpenSpec.upto (s : _root_.Go.ChangeSpec) : _root_.Go.OpenSpec := { _root_.Go.OpenSpec.ofChange s with cond := some uptoSmall }

/-- 'ledgerlaw12.ProofNames', WHERE WHAT IT READS IS OF BULK AT MOST 1048576: true; the input reads as it did. -/
def proofNamesUptoRow : OpenClaim := { program := "ytnobhfpjchofpaa", sum := "12a7107f3a36588792c761ec0346e9b1fe0c4dc4816f19e6d5248730dd7863ee", func := "ledger/ledgerlaw12.ProofNames", spec := "proofNames", apart := false, narrowed := true }
def ProofNamesUptoSaid : Prop := proofNamesUptoRow.holds Try.pinned (OpenSpec.upto proofNamesSpec)

/-- 'ledgerlaw12.ProofEncodes', WHERE WHAT IT READS IS OF BULK AT MOST 1048576: true; the input reads as it did. -/
def proofEncodesUptoRow : OpenClaim := { program := "ytnobhfpjchofpaa", sum := "12a7107f3a36588792c761ec0346e9b1fe0c4dc4816f19e6d5248730dd7863ee", func := "ledger/ledgerlaw12.ProofEncodes", spec := "proofEncodes", apart := false, narrowed := true }
def ProofEncodesUptoSaid : Prop := proofEncodesUptoRow.holds Try.pinned (OpenSpec.upto proofEncodesSpec)

/-- 'ledgerlaw12.ProofDecodes', WHERE WHAT IT READS IS OF BULK AT MOST 1048576: true; the input reads as it did. -/
def proofDecodesUptoRow : OpenClaim := { program := "ytnobhfpjchofpaa", sum := "12a7107f3a36588792c761ec0346e9b1fe0c4dc4816f19e6d5248730dd7863ee", func := "ledger/ledgerlaw12.ProofDecodes", spec := "proofDecodes", apart := false, narrowed := true }
def ProofDecodesUptoSaid : Prop := proofDecodesUptoRow.holds Try.pinned (OpenSpec.upto proofDecodesSpec)

/-- 'ledgerlaw12.ProofTexts', WHERE WHAT IT READS IS OF BULK AT MOST 1048576: true; the input reads as it did. -/
def proofTextsUptoRow : OpenClaim := { program := "ytnobhfpjchofpaa", sum := "12a7107f3a36588792c761ec0346e9b1fe0c4dc4816f19e6d5248730dd7863ee", func := "ledger/ledgerlaw12.ProofTexts", spec := "proofTexts", apart := false, narrowed := true }
def ProofTextsUptoSaid : Prop := proofTextsUptoRow.holds Try.pinned (OpenSpec.upto proofTextsSpec)

/-- 'ledgerlaw12.ProofBack', WHERE WHAT IT READS IS OF BULK AT MOST 1048576: true; the input reads as it did. -/
def proofBackUptoRow : OpenClaim := { program := "ytnobhfpjchofpaa", sum := "12a7107f3a36588792c761ec0346e9b1fe0c4dc4816f19e6d5248730dd7863ee", func := "ledger/ledgerlaw12.ProofBack", spec := "proofBack", apart := false, narrowed := true }
def ProofBackUptoSaid : Prop := proofBackUptoRow.holds Try.pinned (OpenSpec.upto proofBackSpec)

/-- 'ledgerlaw12.ProofCuts', WHERE WHAT IT READS IS OF BULK AT MOST 1048576: true; the input reads as it did. -/
def proofCutsUptoRow : OpenClaim := { program := "ytnobhfpjchofpaa", sum := "12a7107f3a36588792c761ec0346e9b1fe0c4dc4816f19e6d5248730dd7863ee", func := "ledger/ledgerlaw12.ProofCuts", spec := "proofCuts", apart := false, narrowed := true }
def ProofCutsUptoSaid : Prop := proofCutsUptoRow.holds Try.pinned (OpenSpec.upto proofCutsSpec)

end Rows
end Go.Proofs.Ytnobhfpjchofpaa
