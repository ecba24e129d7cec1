/-
  Lemmas of a claim, bundle k: XTabs4.
-/
import Derived.Test.YtakaocenbempmaaGreatDoorPfj
import Derived.Test.YtakaocenbempmaaGreatDoorPfK
set_option linter.unusedVariables false
set_option linter.unusedSimpArgs false
namespace Go.Proofs.YtakaocenbempmaaGreatDoor
open Go.RowKit
theorem refK_data:(Rows.laid_ledger_ledgerref1_consts:DataW Unit)=Lib.tabData .u32 (shaK.map fun (z:Nat)=>(z:Int)):=by rfl
theorem refIV_data:(Rows.laid_ledger_ledgerref1_first:DataW Unit)=Lib.tabData .u32 (shaIV.words.map fun (z:Nat)=>(z:Int)):=by rfl
abbrev laid4:List (String × DataW Unit):=[("ledger/ledgerref1.first", Rows.laid_ledger_ledgerref1_first),("ledger/ledgerref1.consts", Rows.laid_ledger_ledgerref1_consts),("ledger/digest.begin", Rows.laid_ledger_digest_begin),("ledger/digest.round", Rows.laid_ledger_digest_round)]
theorem tabs4_of_laid {w:World} (h:laidMet Tryz.prog laid4 w):Tabs w∧RTabs w:=by
 obtain ⟨ps,⟨g,t,cs,fuel,p,q,hg,ht,hvar,hd,⟨g2,t2,cs2,fuel2,p2,q2,hg2,ht2,hvar2,hd2,⟨g3,t3,cs3,fuel3,p3,q3,hg3,ht3,hvar3,hd3,⟨g4,t4,cs4,fuel4,p4,q4,hg4,ht4,hvar4,hd4,_⟩,_⟩,_⟩,_⟩,_⟩:=h
 have h1:=tab_cell (g:=1) (t:=154) (by kernel_rfl) (by kernel_rfl) Tryz.underlying154 (by kernel_rfl) refIV_data ⟨g,t,cs,fuel,p,hg,ht,hvar,hd⟩
 have h2:=tab_cell (g:=3) (t:=181) (by kernel_rfl) (by kernel_rfl) Tryz.underlying181 (by kernel_rfl) refK_data ⟨g2,t2,cs2,fuel2,p2,hg2,ht2,hvar2,hd2⟩
 have h3:=tab_cell (g:=0) (t:=154) (by kernel_rfl) (by kernel_rfl) Tryz.underlying154 (by kernel_rfl) shaIV_data ⟨g3,t3,cs3,fuel3,p3,hg3,ht3,hvar3,hd3⟩
 have h4:=tab_cell (g:=2) (t:=181) (by kernel_rfl) (by kernel_rfl) Tryz.underlying181 (by kernel_rfl) shaK_data ⟨g4,t4,cs4,fuel4,p4,hg4,ht4,hvar4,hd4⟩
 refine ⟨⟨fun i hi=>h4 i hi,fun i hi=>h3 i hi,?_,?_⟩,⟨fun i hi=>h2 i hi,fun i hi=>h1 i hi,?_,?_⟩⟩
 ·exact World.block_lt_of_cell? w _ (h4 0 (by decide))
 ·exact World.block_lt_of_cell? w _ (h3 0 (by decide))
 ·exact World.block_lt_of_cell? w _ (h2 0 (by decide))
 ·exact World.block_lt_of_cell? w _ (h1 0 (by decide))
end Go.Proofs.YtakaocenbempmaaGreatDoor
