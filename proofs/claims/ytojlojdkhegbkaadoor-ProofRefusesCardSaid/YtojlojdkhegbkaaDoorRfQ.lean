/-
  Lemmas of a claim, bundle Q: XTabs.
-/
import Derived.Lib.LaidTab
import Derived.Test.YtojlojdkhegbkaaDoorRfO
import Derived.Test.YtojlojdkhegbkaaDoorRfF
/-
  The tables of package digest, out of what a row lists.
-/
namespace Go.Proofs.YtojlojdkhegbkaaDoor
set_option linter.unusedVariables false
set_option linter.unusedSimpArgs false
open Go.RowKit

theorem tab_cell {w : World} {name : String} {g n : Nat} {t : TypeId} {zs : List Nat} {d : DataW Unit} (hg : Tryd.prog.globalNamed name = some g) (hty : (Tryd.prog.globals[g]?).map (·.type) = some t) (ht : Tryd.prog.underlying t = some (.array n 121))
    (hct : Tryd.prog.cellsOf t = n) (hd : d = Lib.tabData .u32 (zs.map fun (z : Nat) => (z : Int)))
    (h : ∃ g' t' cs fuel p, Tryd.prog.globalNamed name = some g' ∧ (Tryd.prog.globals[g']?).map (·.type) = some t' ∧ w.var? Tryd.prog name = some cs ∧ DataW.trod (fun _ => ()) Tryd.prog w 0 (fun _ => true) false fuel t' cs.toList = some (d, p)) :
    ∀ i, i < zs.length → w.cell? ⟨g, i, none⟩ = some (.int .u32 (zs.getD i 0 : Nat)) := by
  obtain ⟨g', t', cs, fuel, p, hg', ht', hvar, hd'⟩ := h
  obtain rfl := Option.some.inj (hg.symm.trans hg')
  obtain rfl := Option.some.inj (hty.symm.trans ht')
  subst hd
  have hT : Lib.TabIs Tryd.prog w name .u32 (zs.map fun (z : Nat) => (z : Int)) := by
    unfold Lib.TabIs
    rw [hvar, ← Lib.cells_of_tab ht Tryd.underlying121 (by kernel_rfl) hct hd']
  intro i hi
  have := hT.cell hg i (by simpa using hi)
  rw [this]
  simp [List.getD_eq_getElem?_getD, hi]
theorem shaK_data : (Rows.laid_ledger_digest_round : DataW Unit) = Lib.tabData .u32 (shaK.map fun (z : Nat) => (z : Int)) := by rfl
theorem shaIV_data : (Rows.laid_ledger_digest_begin : DataW Unit) = Lib.tabData .u32 (shaIV.words.map fun (z : Nat) => (z : Int)) := by rfl
abbrev laid2 : List (String × DataW Unit) := [("ledger/digest.begin", Rows.laid_ledger_digest_begin), ("ledger/digest.round", Rows.laid_ledger_digest_round)]
theorem tabs_of_laid {w : World} (h : laidMet Tryd.prog laid2 w) : Tabs w := by
  obtain ⟨ps, ⟨g, t, cs, fuel, p, q, hg, ht, hvar, hd, ⟨g2, t2, cs2, fuel2, p2, q2, hg2, ht2, hvar2, hd2, _⟩, _⟩, _⟩ := h
  have h1 := tab_cell (g := 0) (t := 122) (by kernel_rfl) (by kernel_rfl) Tryd.underlying122 (by kernel_rfl) shaIV_data ⟨g, t, cs, fuel, p, hg, ht, hvar, hd⟩
  have h2 := tab_cell (g := 1) (t := 160) (by kernel_rfl) (by kernel_rfl) Tryd.underlying160 (by kernel_rfl) shaK_data ⟨g2, t2, cs2, fuel2, p2, hg2, ht2, hvar2, hd2⟩
  refine ⟨fun i hi => h2 i hi, fun i hi => h1 i hi, ?_, ?_⟩
  · exact World.block_lt_of_cell? w _ (h2 0 (by decide))
  · exact World.block_lt_of_cell? w _ (h1 0 (by decide))
end Go.Proofs.YtojlojdkhegbkaaDoor
