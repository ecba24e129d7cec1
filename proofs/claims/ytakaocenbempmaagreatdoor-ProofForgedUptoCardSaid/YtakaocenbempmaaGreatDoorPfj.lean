/-
  Lemmas of a claim, bundle j: XTabs.
-/
import Derived.Lib.LaidTab
import Derived.Test.YtakaocenbempmaaGreatDoorPfh
import Derived.Test.YtakaocenbempmaaGreatDoorPfG
set_option linter.unusedVariables false
set_option linter.unusedSimpArgs false
namespace Go.Proofs.YtakaocenbempmaaGreatDoor
open Go.RowKit
theorem tab_cell {w:World} {name:String} {g n:Nat} {t:TypeId} {zs:List Nat} {d:DataW Unit} (hg:Tryz.prog.globalNamed name=some g) (hty:(Tryz.prog.globals[g]?).map (·.type)=some t) (ht:Tryz.prog.underlying t=some (.array n 153))
  (hct:Tryz.prog.cellsOf t=n) (hd:d=Lib.tabData .u32 (zs.map fun (z:Nat)=>(z:Int)))
  (h:∃ g' t' cs fuel p,Tryz.prog.globalNamed name=some g'∧(Tryz.prog.globals[g']?).map (·.type)=some t'∧w.var? Tryz.prog name=some cs∧DataW.trod (fun _=>()) Tryz.prog w 0 (fun _=>true) false fuel t' cs.toList=some (d,p)) :
  ∀ i,i < zs.length→w.cell? ⟨g,i,none⟩=some (.int .u32 (zs.getD i 0:Nat)):=by
 obtain ⟨g',t',cs,fuel,p,hg',ht',hvar,hd'⟩:=h
 obtain rfl:=Option.some.inj (hg.symm.trans hg')
 obtain rfl:=Option.some.inj (hty.symm.trans ht')
 subst hd
 have hT:Lib.TabIs Tryz.prog w name .u32 (zs.map fun (z:Nat)=>(z:Int)):=by
  unfold Lib.TabIs
  rw [hvar,← Lib.cells_of_tab ht Tryz.underlying153 (by kernel_rfl) hct hd']
 intro i hi
 have:=hT.cell hg i (by simpa using hi)
 rw [this]
 simp [List.getD_eq_getElem?_getD,hi]
theorem shaK_data:(Rows.laid_ledger_digest_round:DataW Unit)=Lib.tabData .u32 (shaK.map fun (z:Nat)=>(z:Int)):=by rfl
theorem shaIV_data:(Rows.laid_ledger_digest_begin:DataW Unit)=Lib.tabData .u32 (shaIV.words.map fun (z:Nat)=>(z:Int)):=by rfl
end Go.Proofs.YtakaocenbempmaaGreatDoor
