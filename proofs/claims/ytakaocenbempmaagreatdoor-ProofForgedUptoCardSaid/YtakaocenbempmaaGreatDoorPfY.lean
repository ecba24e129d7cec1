/-
  Lemmas of a claim, bundle Y: XR9G XR9H XR3A XQA XQB.
-/
import Derived.Test.YtakaocenbempmaaGreatDoorPfX
import Derived.Test.YtakaocenbempmaaGreatDoorPfV
import Derived.Deep.CutBlock
import Derived.Deep.DeepCutAuto
set_option linter.unusedVariables false
set_option linter.unusedSimpArgs false
namespace Go.Proofs.YtakaocenbempmaaGreatDoor
open Go.RowKit
theorem node_cell_val {w:World} {q:Nat} {n:Nde} {vv:Value} (hok:n.ok) (h:w.heap[q]?=some (.cells (nodeC n vv).toArray 90 (0,0))):w.cell? ⟨q,101,none⟩=some vv:=(node_parts hok h).1.2.2.2.2.2
def leafK (key:List UInt8):Nde:=⟨1,0,0,0,0,z32,z32,key,[]⟩
theorem leafK_ok {key:List UInt8} (h:key.length=32):(leafK key).ok:=⟨rfl,rfl,h⟩
theorem leafK_C (key val:List UInt8) (vv:Value):nodeC (leafN key val) vv=nodeC (leafK key) vv:=rfl
set_option maxRecDepth 100000 in
set_option maxHeartbeats 6400000 in
theorem r9Decode_leaf {w:World} {v:Value} {l:List UInt8} (hv:BytesAt w v l) (h1:32≤l.length) (h2:l.length≤160) :
  Calls Tryz.prog 86 #[.int .i64 1,v] w fun e w'=>∃ a c,e=.returned (.tuple #[.agg (nodeC (leafN (l.take 32) (l.drop 32)) (.slice a (l.drop 32).length c)).toArray,.int .i64 0])∧OwnB w' (.slice a (l.drop 32).length c) (l.drop 32)∧(∀ k,(Value.slice a (l.drop 32).length c).ownBlock=some k→w.heap.size≤k)∧Keeps [] w w':=by
 obtain ⟨a,c,rfl,hc,hm⟩:=hv.form
 obtain ⟨g,o,rfl,hg,hr⟩:=hv.at (by omega)
 obtain ⟨n,hn⟩:∃ n,n=l.length:=⟨_,rfl⟩
 rw [← hn] at h1 h2 ⊢
 obtain ⟨K32,hK32⟩:∃ K,K=l.take 32:=⟨_,rfl⟩
 have hK32l:K32.length=32:=by rw [hK32,List.length_take];omega
 obtain ⟨V,hV⟩:∃ V,V=l.drop 32:=⟨_,rfl⟩
 have hVl:V.length=n - 32:=by rw [hV,List.length_drop,hn]
 rw [← hK32,← hV]
 obtain ⟨Z,hZ,hZi,hZ1⟩:∃ Z:List Value,Z.length=102∧(Tryz.prog.info? 90).map (fun i=>(i.zero,i.size,i.bytes))=some (some (.agg Z.toArray),102,160)∧(∀ v∈Z,v.oneCell'=true):=⟨_,nodeC_length nd0_ok _,info_node,nodeC_ones⟩
 obtain ⟨K,hK⟩:∃ K,K=nodeC (leafK (fillL K32 0)) (.slice none 0 0):=⟨_,rfl⟩
 have hKl:K.length=102:=by rw [hK];exact nodeC_length (leafK_ok (fillL_length hK32l (by omega))) _
 have hK1:∀ v∈K,v.oneCell'=true:=by rw [hK];exact nodeC_ones
 have hbk:=fun w=>run_build_nodeK w 1
 rw [show nodeC ⟨1,0,0,0,0,z32,z32,z32,[]⟩ (.slice none 0 0)=K by rw [hK,fillL_zero];rfl] at hbk
 obtain ⟨g4,hg4⟩:∃ x,x=w.heap.size:=⟨_,rfl⟩
 obtain ⟨w1,hw1⟩:∃ x,x=w.alloc (.cells Z.toArray 90 (0,0)):=⟨_,rfl⟩
 have k1:Keeps [] w w1:=by rw [hw1];exact (Keeps.refl _ _).alloc _
 have b1:w1.heap[g4]?=some (.cells Z.toArray 90 (0,0)):=by rw [hw1];exact heap_new_at hg4
 obtain ⟨g6,hg6⟩:∃ x,x=w1.heap.size:=⟨_,rfl⟩
 obtain ⟨w2,hw2⟩:∃ x,x=(w1.alloc (.cells Z.toArray 90 (0,0))).setCells w1.heap.size 0 K:=⟨_,rfl⟩
 have k2:Keeps [] w1 w2:=by rw [hw2];exact ((Keeps.refl _ _).alloc _).setCells (.inr (Nat.le_refl _)) _ _
 have b6:w2.heap[g6]?=some (.cells K.toArray 90 (0,0)):=by rw [hw2,hg6];exact store_all (heap_new_at rfl) (by rw [hZ,hKl])
 have HZ:=Lib.hid (And.intro hZ hZ1)
 have HZI:=Lib.hid hZi
 have HK:=Lib.hid (And.intro hKl hK1)
 have HBK:=Lib.hid hbk
 have HG4:=Lib.hid hg4
 have HG6:=Lib.hid hg6
 have HW1:=Lib.hid hw1
 have HW2:=Lib.hid hw2
 have HB4:=Lib.hid ((k2.block g4 (lt_of_heap b1) (by simp)).trans b1)
 have HB6:=Lib.hid (show w2.heap[g6]?=some (.cells (nodeC (leafK (fillL K32 0)) (.slice none 0 0)).toArray 90 (0,0)) by rw [b6,hK])
 have HKK:=Lib.hid (k1.trans (G:=[]) k2 (by simp))
 have HN:=Lib.hid hn
 have HK32:=Lib.hid (And.intro hK32 hK32l)
 have HV:=Lib.hid (And.intro hV hVl)
 have HRG:=Lib.hid (And.intro hg hr)
 have HG46:=Lib.hid (show g4 < g6∧g < g6∧g6 < w2.heap.size by
  have:=lt_of_heap b1
  have:=lt_of_heap b6
  have:=k1.size
  omega)
 clear hZ hZi hZ1 hK hKl hK1 hbk hg4 hg6 hw1 hw2 k1 k2 b1 b6 hn hK32 hK32l hV hVl hg hr hv hc hm
 go_enter Tryz.func86,Tryz.ntmps86
 go_upto_region 1 with (first | (refine wl_alloc rfl 90 rfl ?_;refine ⟨_,_,run_alloc _ HZI.out,?_⟩;try simp only [zA,zB,zC,zD,zE,zF,zG,zH]))
 try simp only [Value.cells]
 rw [← HW1.out,← HG4.out]
 go_upto_region 2 with (first | (refine wl_build rfl 90 #[(0,.tmp 11)] #[(0,.int .i64 1)] rfl (by simp [Act.eval]) ?_;refine ⟨_,_,HBK.out _,?_⟩;try simp only [zA,zB,zC,zD,zE,zF,zG,zH]) | (refine wl_alloc rfl 90 rfl ?_;refine ⟨_,_,run_alloc _ HZI.out,?_⟩;(try simp only [Value.cells]);try simp only [zA,zB,zC,zD,zE,zF,zG,zH]) | (refine wl_store rfl 90 (.tmp 6) (.tmp 12) rfl ?_;refine ⟨_,run_store_node (heap_new_at rfl) HZ.out.1 HK.out.1 HK.out.2,?_⟩;try simp only [zA,zB,zC,zD,zE,zF,zG,zH]))
 rw [← HW2.out,← HG6.out]
 have n1:¬ (n:Int) < 32:=by omega
 have n2:¬ (160:Int) < (n:Int):=by omega
 go_wp2_with fail
 go_loopw [7] (fun iv wr=>∃ i:Nat,i≤32∧iv=.int .i64 i∧wr.heap[g6]?=some (.cells (nodeC (leafK (fillL K32 i)) (.slice none 0 0)).toArray 90 (0,0))∧Keeps [g6] w2 wr) (fun iv _=>32 - (intOf iv).toNat)
 case atStart=>exact ⟨0,Nat.zero_le _,rfl,HB6.out,Keeps.refl _ _⟩
 case round =>
  obtain ⟨i,hi,rfl,hb,hkr⟩:=hrel
  have i0:(0:Int)≤(i:Int):=by omega
  have HB:=Lib.hid hb
  have HKR:=Lib.hid hkr
  clear hb hkr
  by_cases hlt:i < 32
  ·have i1:(i:Int) < 32:=by omega
   have i2:(i:Int) < (n:Int):=by omega
   obtain ⟨x,hx⟩:∃ x,K32[i]?=some x:=⟨_,List.getElem?_eq_getElem (by rw [HK32.out.2];exact hlt)⟩
   have hxl:l[i]?=some x:=by
    rw [HK32.out.1,List.getElem?_take_of_lt hlt] at hx
    exact hx
   have hcell:wr.cell? ⟨g,o+i,none⟩=some (.int .u8 x.toNat):=range_byte HRG.out.2 ((HKR.out.block g (by have:=HG46.out;omega) (by have:=HG46.out;simp;omega)).trans (HKK.out.block g HRG.out.1 (by simp))) hxl
   have hok:(leafK (fillL K32 i)).ok:=leafK_ok (fillL_length HK32.out.2 hi)
   have hkc:wr.cell? ⟨g6,69+i,none⟩=some (B ((fillL K32 i).getD i 0)):=by
    have h:=(node_parts hok HB.out).2.2.2.1 i (B ((fillL K32 i).getD i 0)) (by
     show ((fillL K32 i).map B)[i]?=_
     rw [List.getElem?_map,List.getD_eq_getElem?_getD,List.getElem?_eq_getElem (by rw [fillL_length HK32.out.2 hi];exact hlt)]
     rfl)
    exact h
   have hfz:=frozen_of_row wr g6 (69+i) _ _ HB.out
   have HX:=Lib.hid hx
   have HOK:=Lib.hid hok
   clear hx hxl hok
   go_wp2_with fail
   go_roundw
   case rel =>
    refine ⟨i+1,by omega,by go_num,?_,HKR.out.setCell (.inl (by simp)) _⟩
    have h:=heap_setCell_same wr g6 (69+i) _ _ (B x) HB.out
    rw [node_set_key HOK.out _ hlt,show (leafK (fillL K32 i)).key=fillL K32 i from rfl,fillL_set HX.out HK32.out.2] at h
    exact h
   case measure=>simp [intOf];omega
  ·obtain rfl:i=32:=by omega
   have HB2:=Lib.hid (show wr.heap[g6]?=some (.cells (nodeC (leafK K32) (.slice none 0 0)).toArray 90 (0,0)) by have h:=HB.out;rwa [fillL_all HK32.out.2] at h)
   have HOK:=Lib.hid (leafK_ok HK32.out.2)
   obtain ⟨wz,rfl⟩:∃ x:World,x=wr:=⟨_,rfl⟩
   clear HB i0 hlt hi
   go_wp2_with fail
   go_loopw [8] (fun iv wr=>∃ (j:Nat) (sv:Value),j≤n - 32∧iv=.int .i64 ((32+j:Nat):Int)∧wr.ownsRow wz.heap.size 5 1 sv j ((V.take j).map B)∧wr.heap[g6]?=some (.cells (nodeC (leafK K32) sv).toArray 90 (0,0))∧Keeps [g6] wz wr) (fun iv _=>n - (intOf iv).toNat)
   case atStart=>exact ⟨0,.slice none 0 0,Nat.zero_le _,rfl,World.ownsRow_nil _ _ _ _,HB2.out,Keeps.refl _ _⟩
   case round =>
    obtain ⟨j,sv,hj,rfl,hown,hb,hkr⟩:=hrel
    obtain ⟨a1,c1,rfl⟩:=own_form hown
    obtain ⟨i,hi⟩:∃ i,i=32+j:=⟨_,rfl⟩
    rw [← hi]
    have i0:(0:Int)≤(i:Int):=by omega
    have HB:=Lib.hid hb
    have HOWN:=Lib.hid hown
    have HK3:=Lib.hid hkr
    have hgz:g6 < wz.heap.size:=lt_of_heap HB2.out
    have hsz:=hkr.size
    clear hb hown hkr
    by_cases hlt:i < n
    ·have i1:(i:Int) < (n:Int):=by omega
     obtain ⟨x,hx⟩:∃ x,V[j]?=some x:=⟨_,List.getElem?_eq_getElem (by rw [HV.out.2];omega)⟩
     have hxl:l[i]?=some x:=by
      rw [HV.out.1,List.getElem?_drop,← hi] at hx
      exact hx
     have hgl:g < g6∧g < wz.heap.size:=by have:=HG46.out;omega
     have hr2:=rangeAt_of_heap HRG.out.2 ((HKR.out.block g (by have:=HG46.out;omega) (by simp;omega)).trans (HKK.out.block g HRG.out.1 (by simp)))
     have hcell:∀ wx:World,wx.heap[g]?=wz.heap[g]?→wx.cell? ⟨g,o+i,none⟩=some (.int .u8 x.toNat):=fun wx hw=>range_byte hr2 hw hxl
     have hg6c:=node_cell_val HOK.out HB.out
     have hov:=World.ownsRow.lt HOWN.out
     have hne6:(Value.slice a1 j c1).ownBlock≠some g6:=fun e=>by have:=(hov g6 e).1;omega
     have hneg:(Value.slice a1 j c1).ownBlock≠some g:=fun e=>by have:=(hov g e).1;omega
     have hn2:j+1≤1099511627776:=by omega
     have HX:=Lib.hid hx
     have HC:=Lib.hid hcell
     have HBG:=Lib.hid (HK3.out.block g hgl.2 (by simp;omega))
     have HI:=Lib.hid hi
     have HOD:=Lib.hid (show wr.drew.ownsRow wz.heap.size 5 1 (.slice a1 j c1) j ((V.take j).map B) from HOWN.out)
     clear hx hcell hxl hi hr2
     go_upto_region 12 with fail
     refine rl_start (fun w'=>w'.cell? ⟨g6,101,none⟩=some (.slice a1 j c1)∧w'.cell? ⟨g,o+i,none⟩=some (.int .u8 x.toNat)) 9 (by kernel_rfl) ?_ (fun hHeld=>?_)
     ·exact ⟨hg6c,HC.out _ HBG.out⟩
     refine rk 0 ?_
     refine rk 1 ?_
     refine rk 2 ?_
     refine rk 3 ?_
     refine rk 4 ?_
     refine rk 5 ?_
     refine rl_act (i:=6) (by kernel_rfl) rfl (fun K hK=>?_)
     (refine st_buildSlice rfl 36 1 #[(0,.tmp 46)] #[(0,.int .u8 x.toNat)] rfl (by simp [Act.eval]) ?_;refine ⟨_,_,run_buildSlice_b1 _ _,?_⟩;try simp only [zA,zB,zC,zD,zE,zF,zG,zH])
     have hold6:(wr.drew.alloc (.cells #[.int .u8 x.toNat] 5 (0,0))).heap[g6]?=wr.heap[g6]?:=heap_old_at (show g6 < wr.drew.heap.size by show g6 < wr.heap.size;omega)
     have holdg:(wr.drew.alloc (.cells #[.int .u8 x.toNat] 5 (0,0))).heap[g]?=wr.heap[g]?:=heap_old_at (show g < wr.drew.heap.size by show g < wr.heap.size;omega)
     refine hK.out _ _ ?_ (fun hHeld=>?_)
     ·exact ⟨(World.cell?_of_block (a:=⟨g6,101,none⟩) hold6).trans hg6c,HC.out _ (holdg.trans HBG.out)⟩
     clear hK K
     try simp only [zA,zB,zC,zD,zE,zF,zG,zH]
     refine rl_act (i:=7) (by kernel_rfl) rfl (fun K hK=>?_)
     refine step_app1 (w0:=wr.drew) rfl (.tmp 42) (.tmp 47) rfl wz.heap.size (.slice a1 j c1) j (V.take j) (by rfl) HOD.out x (by rfl) (by rfl) hn2 hsz ?_
     intro v3 w3 ho3 hk3 hb3
     obtain ⟨a3,c3,rfl⟩:=own_form ho3
     have h63:w3.heap[g6]?=wr.heap[g6]?:=hb3 g6 (show g6 < wr.heap.size by omega) hne6
     have hg3:w3.heap[g]?=wr.heap[g]?:=hb3 g (show g < wr.heap.size by omega) hneg
     have q3:=(World.cell?_of_block (a:=⟨g6,101,none⟩) h63).trans hg6c
     have f3:=frozen_of_row w3 g6 101 _ _ (h63.trans HB.out)
     have HO3:=Lib.hid ho3
     have HK4:=Lib.hid (hk3 [g6] wz HK3.out.drew (Nat.le_refl _))
     have H63:=Lib.hid (h63.trans HB.out)
     have HG3:=Lib.hid (hg3.trans HBG.out)
     clear ho3 hk3 hb3 hold6 holdg hg6c h63 hg3
     refine hK.out _ _ ?_ (fun hHeld=>?_)
     ·exact ⟨q3,HC.out _ HG3.out⟩
     clear hK K
     try simp only [zA,zB,zC,zD,zE,zF,zG,zH]
     refine rk 8 ?_
     refine rl_last (by kernel_rfl) (by kernel_rfl) rfl (fun K hK=>?_)
     go_simp
     refine hK.out _ _ ?_
     clear hK K
     try simp only [zA,zB,zC,zD,zE,zF,zG,zH]
     clear hHeld
     go_wp2_with fail
     go_roundw
     case rel =>
      (repeat apply Exists.intro)
      refine ⟨⟨j+1,.slice a3 (j+1) c3,by have:=HI.out;omega,?_,?_,?_,HK4.out.setCell (p:=⟨g6,101,none⟩) (.inl (by simp)) _⟩,rfl⟩
      ·have:=HI.out
       congr 1
       omega
      ·rw [← take_snoc HX.out]
       exact ownsRow_keep HO3.out (fun k hk=>Below.heap_setCell _ _ _ _ (by have:=(World.ownsRow.lt HO3.out k hk).1;simp;omega))
      ·have h:=heap_setCell_same w3 g6 101 _ _ (.slice a3 (j+1) c3) H63.out
       rw [node_set_val HOK.out] at h
       exact h
     case measure=>simp [intOf];omega
    ·have i1:¬ (i:Int) < (n:Int):=by omega
     have ej:j=V.length:=by rw [HV.out.2];omega
     obtain ⟨RR,hRR⟩:∃ RR,RR=nodeC (leafN K32 V) (.slice a1 V.length c1):=⟨_,rfl⟩
     have hRl:RR.length=102:=by rw [hRR];exact nodeC_length (n:=leafN K32 V) ⟨rfl,rfl,HK32.out.2⟩ _
     have hR1:∀ v∈RR,v.oneCell'=true:=by rw [hRR];exact nodeC_ones
     have hbR:wr.heap[g6]?=some (.cells RR.toArray 90 (0,0)):=by rw [hRR,leafK_C,← ej];exact HB.out
     have hO:OwnB wr (.slice a1 V.length c1) V:=by
      have h:=HOWN.out
      rw [ej,List.take_length] at h
      exact ownsRow_base h
     have hOlt:=World.ownsRow.lt HOWN.out
     rw [ej] at hOlt
     have h44:=(HK3.out.block g4 (by have:=HG46.out;omega) (by have:=HG46.out;simp;omega)).trans ((HKR.out.block g4 (by have:=HG46.out;omega) (by have:=HG46.out;simp;omega)).trans HB4.out)
     have HRG2:=Lib.hid (rangeAt_all hbR)
     have HRR:=Lib.hid (And.intro hRR (And.intro hRl hR1))
     have HSR:=Lib.hid (show (Tryz.prog.info? 90).map (·.size)=some RR.length by rw [hRl];exact size_node)
     have H44:=Lib.hid h44
     have HO:=Lib.hid hO
     have HOL:=Lib.hid hOlt
     clear hRR hRl hR1 hbR hO h44 hOlt hi HOWN ej
     go_wp2_with (first | (refine wpList_load_mid rfl 90 (.tmp 6) rfl g6 0 (by rfl) RR _ HRG2.out Tryz.underlying90 rfl HSR.out ?_;try simp only [zA,zB,zC,zD,zE,zF,zG,zH]) | (refine wl_store rfl 90 (.tmp 4) (.tmp 50) rfl ?_;refine ⟨_,run_store_node H44.out HZ.out.1 HRR.out.2.1 HRR.out.2.2,?_⟩;try simp only [zA,zB,zC,zD,zE,zF,zG,zH]))
     refine bodyPost_ret (results_row2 (cs:=RR) rfl rfl rfl (rangeAt_all (store_all H44.out (by rw [HZ.out.1,HRR.out.2.1]))) Tryz.underlying90 rfl HSR.out) rfl ?_
     have kf:Keeps [g4] wr (wr.setCells g4 0 RR):=(Keeps.refl _ _).setCells (.inl (by simp)) _ _
     have z1:=HKK.out.size
     have z2:=HKR.out.size
     refine ⟨a1,c1,by rw [HRR.out.1];rfl,?_,fun k hk=>?_,?_⟩
     ·exact ownsRow_keep HO.out (fun k hk=>kf.block k (World.ownsRow.lt HO.out k hk).2 (by have:=(HOL.out k hk).1;have:=HG46.out;simp;omega))
     ·have:=(HOL.out k hk).1
      omega
     ·have i1:∀ k,k∈[g6]→k∈[]∨w.heap.size≤k:=fun k hk=>by simp at hk;have:=HG46.out;have:=HG4.out;exact .inr (by omega)
      have a1:=(HKK.out.trans (G:=[g6]) HKR.out i1).trans (G:=[g6]) HK3.out i1
      exact a1.trans (G:=[g4]) kf (fun k hk=>.inr (by simp at hk;have:=HG4.out;omega))
open Go.RowKit
def brN (lp rp lc rc:Nat) (ls rs:List UInt8):Nde:=⟨2,lp,rp,lc,rc,ls,rs,z32,[]⟩
theorem brN_ok {lp rp lc rc:Nat} {ls rs:List UInt8} (h1:ls.length=32) (h2:rs.length=32):(brN lp rp lc rc ls rs).ok:=⟨h1,h2,rfl⟩
theorem brN_set1 (lp rp lc rc x:Nat) (ls rs:List UInt8) (vv:Value):(nodeC (brN lp rp lc rc ls rs) vv).toArray.setIfInBounds 1 (.int .i64 x)=(nodeC (brN x rp lc rc ls rs) vv).toArray:=by rw [List.setIfInBounds_toArray];rfl
theorem brN_set2 (lp rp lc rc x:Nat) (ls rs:List UInt8) (vv:Value):(nodeC (brN lp rp lc rc ls rs) vv).toArray.setIfInBounds 2 (.int .i64 x)=(nodeC (brN lp x lc rc ls rs) vv).toArray:=by rw [List.setIfInBounds_toArray];rfl
theorem brN_set3 (lp rp lc rc x:Nat) (ls rs:List UInt8) (vv:Value):(nodeC (brN lp rp lc rc ls rs) vv).toArray.setIfInBounds 3 (.int .i64 x)=(nodeC (brN lp rp x rc ls rs) vv).toArray:=by rw [List.setIfInBounds_toArray];rfl
theorem brN_set4 (lp rp lc rc x:Nat) (ls rs:List UInt8) (vv:Value):(nodeC (brN lp rp lc rc ls rs) vv).toArray.setIfInBounds 4 (.int .i64 x)=(nodeC (brN lp rp lc x ls rs) vv).toArray:=by rw [List.setIfInBounds_toArray];rfl
def BrAt (w:World) (g:Nat) (lp rp lc rc:Nat) (ls rs:List UInt8):Prop:=w.heap[g]?=some (.cells (nodeC (brN lp rp lc rc ls rs) (.slice none 0 0)).toArray 90 (0,0))
theorem BrAt.keeps {w w':World} {g lp rp lc rc:Nat} {ls rs:List UInt8} {F:List Nat} (h:BrAt w g lp rp lc rc ls rs) (hk:Keeps F w w') (hg:g ∉ F):BrAt w' g lp rp lc rc ls rs:=(hk.block g (lt_of_heap h) hg).trans h
theorem BrAt.free {w:World} {g lp rp lc rc:Nat} {ls rs:List UInt8} (h:BrAt w g lp rp lc rc ls rs) (i:Nat):w.frozen? ⟨g,i,none⟩=false:=frozen_of_row w g i _ _ h
set_option maxRecDepth 100000 in
set_option maxHeartbeats 6400000 in
theorem r9Decode_branch {w:World} {v:Value} {l:List UInt8} (hv:BytesAt w v l) (h80:l.length=80) {ok:Bool} (hok:ok=branchOk (le4 l 0) (le4 l 8) ((l.drop 16).take 32) (le4 l 4) (le4 l 12) ((l.drop 48).take 32)) :
  Calls Tryz.prog 86 #[.int .i64 2,v] w fun e w'=>e=.returned (if ok=true then .tuple #[.agg (nodeC (branchN (le4 l 0) (le4 l 8) ((l.drop 16).take 32) (le4 l 4) (le4 l 12) ((l.drop 48).take 32)) (.slice none 0 0)).toArray,.int .i64 0] else .tuple #[.agg (nodeC nd0 (.slice none 0 0)).toArray,.int .i64 90])∧Keeps [] w w':=by
 obtain ⟨a,c,rfl,hc,hm⟩:=hv.form
 obtain ⟨g,o,rfl,hg,hr⟩:=hv.at (by omega)
 obtain ⟨LS,hLS⟩:∃ x,x=(l.drop 16).take 32:=⟨_,rfl⟩
 obtain ⟨RS,hRS⟩:∃ x,x=(l.drop 48).take 32:=⟨_,rfl⟩
 have hLl:LS.length=32:=by rw [hLS,List.length_take,List.length_drop];omega
 have hRl:RS.length=32:=by rw [hRS,List.length_take,List.length_drop];omega
 obtain ⟨LP,hLP⟩:∃ x,x=le4 l 0:=⟨_,rfl⟩
 obtain ⟨RP,hRP⟩:∃ x,x=le4 l 4:=⟨_,rfl⟩
 obtain ⟨LC,hLC⟩:∃ x,x=le4 l 8:=⟨_,rfl⟩
 obtain ⟨RC,hRC⟩:∃ x,x=le4 l 12:=⟨_,rfl⟩
 rw [← hLS,← hRS,← hLP,← hRP,← hLC,← hRC] at hok ⊢
 have hright:=fun (wx:World)=>r9Right_branch (w:=wx) (lp:=LP) (lc:=LC) (rp:=RP) (rc:=RC) hLl hRl (by rw [hLP];exact le4_lt _ _) (by rw [hLC];exact le4_lt _ _) (by rw [hRP];exact le4_lt _ _) (by rw [hRC];exact le4_lt _ _)
 rw [← hok] at hright
 obtain ⟨RR,hRR⟩:∃ RR,RR=nodeC (branchN LP LC LS RP RC RS) (.slice none 0 0):=⟨_,rfl⟩
 rw [← hRR] at hright ⊢
 have hRRl:RR.length=102:=by rw [hRR];exact nodeC_length (n:=branchN LP LC LS RP RC RS) ⟨hLl,hRl,rfl⟩ _
 have hRR1:∀ v∈RR,v.oneCell'=true:=by rw [hRR];exact nodeC_ones
 have hnum:=fun (wx:World) (hk:Keeps [] w wx) (i:Nat) (hi:i+4≤80)=>r9Number_any (w:=wx) (c:=c) (rangeAt_of_heap hr (hk.block g hg (by simp))) (Nat.lt_of_lt_of_le hg hk.size) h80 (by omega) i hi
 obtain ⟨Z,hZ,hZi,hZ1,hZb⟩:∃ Z:List Value,Z.length=102∧(Tryz.prog.info? 90).map (fun i=>(i.zero,i.size,i.bytes))=some (some (.agg Z.toArray),102,160)∧(∀ v∈Z,v.oneCell'=true)∧Z=nodeC nd0 (.slice none 0 0):=⟨_,nodeC_length nd0_ok _,info_node,nodeC_ones,rfl⟩
 have hbz:=run_build_node0
 rw [← hZb] at hbz
 rw [← hZb]
 obtain ⟨K,hK⟩:∃ K,K=nodeC (brN 0 0 0 0 (fillL LS 0) (fillL RS 0)) (.slice none 0 0):=⟨_,rfl⟩
 have hKl:K.length=102:=by rw [hK];exact nodeC_length (brN_ok (fillL_length hLl (by omega)) (fillL_length hRl (by omega))) _
 have hK1:∀ v∈K,v.oneCell'=true:=by rw [hK];exact nodeC_ones
 have hbk:=fun w=>run_build_nodeK w 2
 rw [show nodeC ⟨2,0,0,0,0,z32,z32,z32,[]⟩ (.slice none 0 0)=K by rw [hK,fillL_zero,fillL_zero];rfl] at hbk
 obtain ⟨g4,hg4⟩:∃ x,x=w.heap.size:=⟨_,rfl⟩
 obtain ⟨w1,hw1⟩:∃ x,x=w.alloc (.cells Z.toArray 90 (0,0)):=⟨_,rfl⟩
 have k1:Keeps [] w w1:=by rw [hw1];exact (Keeps.refl _ _).alloc _
 have b1:w1.heap[g4]?=some (.cells Z.toArray 90 (0,0)):=by rw [hw1];exact heap_new_at hg4
 obtain ⟨g6,hg6⟩:∃ x,x=w1.heap.size:=⟨_,rfl⟩
 obtain ⟨w2,hw2⟩:∃ x,x=(w1.alloc (.cells Z.toArray 90 (0,0))).setCells w1.heap.size 0 K:=⟨_,rfl⟩
 have k2:Keeps [] w1 w2:=by rw [hw2];exact ((Keeps.refl _ _).alloc _).setCells (.inr (Nat.le_refl _)) _ _
 have b6:w2.heap[g6]?=some (.cells K.toArray 90 (0,0)):=by rw [hw2,hg6];exact store_all (heap_new_at rfl) (by rw [hZ,hKl])
 have HZ:=Lib.hid (And.intro hZ hZ1)
 have HZI:=Lib.hid hZi
 have HK:=Lib.hid (And.intro hKl hK1)
 have HBK:=Lib.hid hbk
 have HBZ:=Lib.hid hbz
 have HG4:=Lib.hid hg4
 have HG6:=Lib.hid hg6
 have HW1:=Lib.hid hw1
 have HW2:=Lib.hid hw2
 have HB4:=Lib.hid ((k2.block g4 (lt_of_heap b1) (by simp)).trans b1)
 have HB6:=Lib.hid (show BrAt w2 g6 0 0 0 0 (fillL LS 0) (fillL RS 0) by unfold BrAt;rw [b6,hK])
 have HKK:=Lib.hid (k1.trans (G:=[]) k2 (by simp))
 have HLS:=Lib.hid (And.intro hLS hLl)
 have HRS:=Lib.hid (And.intro hRS hRl)
 have HP:=Lib.hid (And.intro hLP (And.intro hRP (And.intro hLC hRC)))
 have HRIGHT:=Lib.hid hright
 have HRR:=Lib.hid (And.intro hRR (And.intro hRRl hRR1))
 have HNUM:=Lib.hid hnum
 have HRG:=Lib.hid (And.intro hg hr)
 have HL80:=Lib.hid h80
 have HG46:=Lib.hid (show g4 < g6∧g < g6∧g6 < w2.heap.size∧w.heap.size≤g4 by
  have:=lt_of_heap b1
  have:=lt_of_heap b6
  have:=k1.size
  omega)
 clear hZ hZi hZ1 hZb hbz hK hKl hK1 hbk hg4 hg6 hw1 hw2 k1 k2 b1 b6 hLS hLl hRS hRl hLP hRP hLC hRC hright hRR hRRl hRR1 hnum hg hr hv hm hok
 rw [h80] at hc ⊢
 clear h80
 go_enter Tryz.func86,Tryz.ntmps86
 go_upto_region 1 with (first | (refine wl_alloc rfl 90 rfl ?_;refine ⟨_,_,run_alloc _ HZI.out,?_⟩;try simp only [zA,zB,zC,zD,zE,zF,zG,zH]))
 try simp only [Value.cells]
 rw [← HW1.out,← HG4.out]
 go_upto_region 2 with (first | (refine wl_build rfl 90 #[(0,.tmp 11)] #[(0,.int .i64 2)] rfl (by simp [Act.eval]) ?_;refine ⟨_,_,HBK.out _,?_⟩;try simp only [zA,zB,zC,zD,zE,zF,zG,zH]) | (refine wl_alloc rfl 90 rfl ?_;refine ⟨_,_,run_alloc _ HZI.out,?_⟩;(try simp only [Value.cells]);try simp only [zA,zB,zC,zD,zE,zF,zG,zH]) | (refine wl_store rfl 90 (.tmp 6) (.tmp 12) rfl ?_;refine ⟨_,run_store_node (heap_new_at rfl) HZ.out.1 HK.out.1 HK.out.2,?_⟩;try simp only [zA,zB,zC,zD,zE,zF,zG,zH]))
 rw [← HW2.out,← HG6.out]
 go_upto_region 16 with fail
 have HN0:=Lib.hid (HNUM.out w2 HKK.out 0 (by omega))
 rw [← HP.out.1] at HN0
 go_upto_region 17 with (first | (go_at_call 105;refine HN0.out.mono ?_;rintro e wa0 ⟨rfl,hka0⟩;have hba0:=HB6.out.keeps hka0 (by simp);have hca0:wa0.cell? ⟨g6,1,none⟩=some (.int .i64 (((0:Nat):Int))):=(node_parts (brN_ok (fillL_length HLS.out.2 (by omega)) (fillL_length HRS.out.2 (by omega))) hba0).1.2.1;have hfa0:=hba0.free 1;have HBA0:=Lib.hid hba0;clear hba0))
 obtain ⟨wb0,hw0⟩:∃ x,x=wa0.setCell ⟨g6,1,none⟩ (.int .i64 LP):=⟨_,rfl⟩
 rw [← hw0]
 have HBB0:=Lib.hid (show BrAt wb0 g6 LP 0 0 0 (fillL LS 0) (fillL RS 0) by
  have h:=heap_setCell_same wa0 g6 1 _ _ (.int .i64 LP) HBA0.out
  rw [brN_set1] at h
  rw [hw0]
  exact h)
 have HKB0:=Lib.hid (show Keeps [] w wb0 by rw [hw0];exact (HKK.out.trans (G:=[]) hka0 (by simp)).setCell (.inr (by have:=HG46.out;show w.heap.size≤g6;omega)) _)
 have HKD0:=Lib.hid (show Keeps [g6] w2 wb0 by rw [hw0];exact (hka0.mono (by simp)).setCell (.inl (by simp)) _)
 clear hw0 hka0 hca0 hfa0 HBA0 HN0
 have HN1:=Lib.hid (HNUM.out wb0 HKB0.out 4 (by omega))
 rw [← HP.out.2.1] at HN1
 go_upto_region 18 with (first | (go_at_call 105;refine HN1.out.mono ?_;rintro e wa1 ⟨rfl,hka1⟩;have hba1:=HBB0.out.keeps hka1 (by simp);have hca1:wa1.cell? ⟨g6,2,none⟩=some (.int .i64 (((0:Nat):Int))):=(node_parts (brN_ok (fillL_length HLS.out.2 (by omega)) (fillL_length HRS.out.2 (by omega))) hba1).1.2.2.1;have hfa1:=hba1.free 2;have HBA1:=Lib.hid hba1;clear hba1))
 obtain ⟨wb1,hw1⟩:∃ x,x=wa1.setCell ⟨g6,2,none⟩ (.int .i64 RP):=⟨_,rfl⟩
 rw [← hw1]
 have HBB1:=Lib.hid (show BrAt wb1 g6 LP RP 0 0 (fillL LS 0) (fillL RS 0) by
  have h:=heap_setCell_same wa1 g6 2 _ _ (.int .i64 RP) HBA1.out
  rw [brN_set2] at h
  rw [hw1]
  exact h)
 have HKB1:=Lib.hid (show Keeps [] w wb1 by rw [hw1];exact (HKB0.out.trans (G:=[]) hka1 (by simp)).setCell (.inr (by have:=HG46.out;show w.heap.size≤g6;omega)) _)
 have HKD1:=Lib.hid (show Keeps [g6] wb0 wb1 by rw [hw1];exact (hka1.mono (by simp)).setCell (.inl (by simp)) _)
 clear hw1 hka1 hca1 hfa1 HBA1 HN1
 have HN2:=Lib.hid (HNUM.out wb1 HKB1.out 8 (by omega))
 rw [← HP.out.2.2.1] at HN2
 go_upto_region 19 with (first | (go_at_call 105;refine HN2.out.mono ?_;rintro e wa2 ⟨rfl,hka2⟩;have hba2:=HBB1.out.keeps hka2 (by simp);have hca2:wa2.cell? ⟨g6,3,none⟩=some (.int .i64 (((0:Nat):Int))):=(node_parts (brN_ok (fillL_length HLS.out.2 (by omega)) (fillL_length HRS.out.2 (by omega))) hba2).1.2.2.2.1;have hfa2:=hba2.free 3;have HBA2:=Lib.hid hba2;clear hba2))
 obtain ⟨wb2,hw2⟩:∃ x,x=wa2.setCell ⟨g6,3,none⟩ (.int .i64 LC):=⟨_,rfl⟩
 rw [← hw2]
 have HBB2:=Lib.hid (show BrAt wb2 g6 LP RP LC 0 (fillL LS 0) (fillL RS 0) by
  have h:=heap_setCell_same wa2 g6 3 _ _ (.int .i64 LC) HBA2.out
  rw [brN_set3] at h
  rw [hw2]
  exact h)
 have HKB2:=Lib.hid (show Keeps [] w wb2 by rw [hw2];exact (HKB1.out.trans (G:=[]) hka2 (by simp)).setCell (.inr (by have:=HG46.out;show w.heap.size≤g6;omega)) _)
 have HKD2:=Lib.hid (show Keeps [g6] wb1 wb2 by rw [hw2];exact (hka2.mono (by simp)).setCell (.inl (by simp)) _)
 clear hw2 hka2 hca2 hfa2 HBA2 HN2
 have HN3:=Lib.hid (HNUM.out wb2 HKB2.out 12 (by omega))
 rw [← HP.out.2.2.2] at HN3
 go_upto_region 20 with (first | (go_at_call 105;refine HN3.out.mono ?_;rintro e wa3 ⟨rfl,hka3⟩;have hba3:=HBB2.out.keeps hka3 (by simp);have hca3:wa3.cell? ⟨g6,4,none⟩=some (.int .i64 (((0:Nat):Int))):=(node_parts (brN_ok (fillL_length HLS.out.2 (by omega)) (fillL_length HRS.out.2 (by omega))) hba3).1.2.2.2.2.1;have hfa3:=hba3.free 4;have HBA3:=Lib.hid hba3;clear hba3))
 obtain ⟨wb3,hw3⟩:∃ x,x=wa3.setCell ⟨g6,4,none⟩ (.int .i64 RC):=⟨_,rfl⟩
 rw [← hw3]
 have HBB3:=Lib.hid (show BrAt wb3 g6 LP RP LC RC (fillL LS 0) (fillL RS 0) by
  have h:=heap_setCell_same wa3 g6 4 _ _ (.int .i64 RC) HBA3.out
  rw [brN_set4] at h
  rw [hw3]
  exact h)
 have HKB3:=Lib.hid (show Keeps [] w wb3 by rw [hw3];exact (HKB2.out.trans (G:=[]) hka3 (by simp)).setCell (.inr (by have:=HG46.out;show w.heap.size≤g6;omega)) _)
 have HKD3:=Lib.hid (show Keeps [g6] wb2 wb3 by rw [hw3];exact (hka3.mono (by simp)).setCell (.inl (by simp)) _)
 clear hw3 hka3 hca3 hfa3 HBA3 HN3
 have HKZ:=Lib.hid (show Keeps [g6] w2 wb3 from ((HKD0.out.trans (G:=[g6]) HKD1.out (fun _ h=>.inl h)).trans (G:=[g6]) HKD2.out (fun _ h=>.inl h)).trans (G:=[g6]) HKD3.out (fun _ h=>.inl h))
 clear HBB0 HBB1 HBB2 HKB0 HKB1 HKB2 HKD0 HKD1 HKD2 HKD3 HB6
 go_wp2_with fail
 go_loopw [9] (fun iv wr=>∃ i:Nat,i≤32∧iv=.int .i64 i∧BrAt wr g6 LP RP LC RC (fillL LS i) (fillL RS i)∧Keeps [g6] wb3 wr) (fun iv _=>32 - (intOf iv).toNat)
 case atStart=>exact ⟨0,Nat.zero_le _,rfl,HBB3.out,Keeps.refl _ _⟩
 case round =>
  obtain ⟨i,hi,rfl,hb,hkr⟩:=hrel
  have i0:(0:Int)≤(i:Int):=by omega
  have HB:=Lib.hid hb
  have HKR:=Lib.hid hkr
  clear hb hkr
  by_cases hlt:i < 32
  ·have i1:(i:Int) < 32:=by omega
   obtain ⟨p1,hp1⟩:∃ p,p=16+i:=⟨_,rfl⟩
   obtain ⟨p2,hp2⟩:∃ p,p=48+i:=⟨_,rfl⟩
   have e1:16+(i:Int)=(p1:Int):=by omega
   have e2:48+(i:Int)=(p2:Int):=by omega
   have l1:(p1:Int) < 80:=by omega
   have l2:(p2:Int) < 80:=by omega
   have z1:(0:Int)≤(p1:Int):=by omega
   have z2:(0:Int)≤(p2:Int):=by omega
   obtain ⟨x,hx⟩:∃ x,LS[i]?=some x:=⟨_,List.getElem?_eq_getElem (by rw [HLS.out.2];exact hlt)⟩
   obtain ⟨y,hy⟩:∃ x,RS[i]?=some x:=⟨_,List.getElem?_eq_getElem (by rw [HRS.out.2];exact hlt)⟩
   have hxl:l[p1]?=some x:=by
    have h:=hx
    rw [HLS.out.1,List.getElem?_take_of_lt hlt,List.getElem?_drop,← hp1] at h
    exact h
   have hyl:l[p2]?=some y:=by
    have h:=hy
    rw [HRS.out.1,List.getElem?_take_of_lt hlt,List.getElem?_drop,← hp2] at h
    exact h
   have hgr:=(HKR.out.block g (by have:=HKZ.out.size;have:=HG46.out;omega) (by have:=HG46.out;simp;omega)).trans ((HKZ.out.block g (by have:=HG46.out;omega) (by have:=HG46.out;simp;omega)).trans (HKK.out.block g HRG.out.1 (by simp)))
   have cx:wr.cell? ⟨g,o+p1,none⟩=some (.int .u8 x.toNat):=range_byte HRG.out.2 hgr hxl
   have hok:=brN_ok (lp:=LP) (rp:=RP) (lc:=LC) (rc:=RC) (fillL_length HLS.out.2 hi) (fillL_length HRS.out.2 hi)
   have hparts:=node_parts hok HB.out
   have k1:wr.cell? ⟨g6,5+i,none⟩=some (B ((fillL LS i).getD i 0)):=hparts.2.1 i _ (by
    show ((fillL LS i).map B)[i]?=_
    rw [List.getElem?_map,List.getD_eq_getElem?_getD,List.getElem?_eq_getElem (by rw [fillL_length HLS.out.2 hi];exact hlt)]
    rfl)
   have f1:=HB.out.free (5+i)
   have HX:=Lib.hid hx
   have HY:=Lib.hid hy
   have HYL:=Lib.hid hyl
   have HGR:=Lib.hid hgr
   have HOK:=Lib.hid hok
   clear hx hy hxl hyl hgr hok hparts hp1 hp2
   go_upto_region 24 with fail
   obtain ⟨w5,hw5⟩:∃ z,z=wr.setCell ⟨g6,5+i,none⟩ (.int .u8 x.toNat):=⟨_,rfl⟩
   rw [← hw5]
   have hb5:BrAt w5 g6 LP RP LC RC (fillL LS (i+1)) (fillL RS i):=by
    have h:=heap_setCell_same wr g6 (5+i) _ _ (B x) HB.out
    rw [node_set_ls HOK.out _ hlt,show (brN LP RP LC RC (fillL LS i) (fillL RS i)).ls=fillL LS i from rfl,fillL_set HX.out HLS.out.2] at h
    rw [hw5]
    exact h
   have hk5:Keeps [g6] wr w5:=by rw [hw5];exact (Keeps.refl _ _).setCell (.inl (by simp)) _
   have hok5:=brN_ok (lp:=LP) (rp:=RP) (lc:=LC) (rc:=RC) (fillL_length (i:=i+1) HLS.out.2 (by omega)) (fillL_length HRS.out.2 hi)
   have cy:w5.cell? ⟨g,o+p2,none⟩=some (.int .u8 y.toNat):=range_byte HRG.out.2 ((hk5.block g (by have:=HKR.out.size;have:=HKZ.out.size;have:=HG46.out;omega) (by have:=HG46.out;simp;omega)).trans HGR.out) HYL.out
   have k2:w5.cell? ⟨g6,37+i,none⟩=some (B ((fillL RS i).getD i 0)):=(node_parts hok5 hb5).2.2.1 i _ (by
    show ((fillL RS i).map B)[i]?=_
    rw [List.getElem?_map,List.getD_eq_getElem?_getD,List.getElem?_eq_getElem (by rw [fillL_length HRS.out.2 hi];exact hlt)]
    rfl)
   have f2:=hb5.free (37+i)
   have HB5:=Lib.hid hb5
   have HK5:=Lib.hid (HKR.out.trans (G:=[g6]) hk5 (fun _ h=>.inl h))
   have HOK5:=Lib.hid hok5
   clear hw5 hb5 hk5 hok5 k1 f1 cx
   go_wp2_with fail
   go_roundw
   case rel =>
    refine ⟨i+1,by omega,by go_num,?_,HK5.out.setCell (.inl (by simp)) _⟩
    have h:=heap_setCell_same w5 g6 (37+i) _ _ (B y) HB5.out
    rw [node_set_rs HOK5.out _ hlt,show (brN LP RP LC RC (fillL LS (i+1)) (fillL RS i)).rs=fillL RS i from rfl,fillL_set HY.out HRS.out.2] at h
    exact h
   case measure=>simp [intOf];omega
  ·obtain rfl:i=32:=by omega
   have hbR:wr.heap[g6]?=some (.cells RR.toArray 90 (0,0)):=by
    have h:=HB.out
    rw [fillL_all HLS.out.2,fillL_all HRS.out.2] at h
    rw [HRR.out.1]
    exact h
   have h44:=(HKR.out.block g4 (by have:=HKZ.out.size;have:=HG46.out;omega) (by have:=HG46.out;simp;omega)).trans ((HKZ.out.block g4 (by have:=HG46.out;omega) (by have:=HG46.out;simp;omega)).trans HB4.out)
   have HBR:=Lib.hid hbR
   have H44:=Lib.hid h44
   have HRG2:=Lib.hid (rangeAt_all hbR)
   have HSR:=Lib.hid (show (Tryz.prog.info? 90).map (·.size)=some RR.length by rw [HRR.out.2.1];exact size_node)
   have HSZ:=Lib.hid (show (Tryz.prog.info? 90).map (·.size)=some Z.length by rw [HZ.out.1];exact size_node)
   have HKW:=Lib.hid (HKB3.out.trans (G:=[g6]) HKR.out (fun k hk=>.inr (by simp at hk;have:=HG46.out;omega)))
   clear hbR h44 i0 hlt hi
   go_upto_region 26 with (first | (refine wpList_load_mid rfl 90 (.tmp 6) rfl g6 0 (by rfl) RR _ HRG2.out Tryz.underlying90 rfl HSR.out ?_;try simp only [zA,zB,zC,zD,zE,zF,zG,zH]) | (go_at_call 106;refine (HRIGHT.out _).mono ?_;rintro e w6 ⟨rfl,hk6⟩))
   have HR6:=Lib.hid (rangeAt_all ((hk6.block g6 (lt_of_heap HBR.out) (by simp)).trans HBR.out))
   have H46:=Lib.hid ((hk6.block g4 (lt_of_heap H44.out) (by simp)).trans H44.out)
   have HK6:=Lib.hid (HKW.out.trans (G:=[]) hk6 (by simp))
   clear hk6 HRG2 H44
   cases ok with
   | true =>
    go_wp2_with (first | (refine wpList_load_mid rfl 90 (.tmp 6) rfl g6 0 (by rfl) RR _ HR6.out Tryz.underlying90 rfl HSR.out ?_;try simp only [zA,zB,zC,zD,zE,zF,zG,zH]) | (refine wl_store rfl 90 (.tmp 4) (.tmp 96) rfl ?_;refine ⟨_,run_store_node H46.out HZ.out.1 HRR.out.2.1 HRR.out.2.2,?_⟩;try simp only [zA,zB,zC,zD,zE,zF,zG,zH]))
    refine bodyPost_ret (results_row2 (cs:=RR) rfl rfl rfl (rangeAt_all (store_all H46.out (by rw [HZ.out.1,HRR.out.2.1]))) Tryz.underlying90 rfl HSR.out) rfl ⟨rfl,?_⟩
    exact HK6.out.setCells (.inr (by have:=HG46.out;omega)) _ _
   | false =>
    go_wp2_with (first | (refine wl_build rfl 90 #[] #[] rfl (by simp [Act.eval]) ?_;refine ⟨_,_,HBZ.out _,?_⟩;try simp only [zA,zB,zC,zD,zE,zF,zG,zH]) | (refine wl_store rfl 90 (.tmp 4) (.tmp 95) rfl ?_;refine ⟨_,run_store_node H46.out HZ.out.1 HZ.out.1 HZ.out.2,?_⟩;try simp only [zA,zB,zC,zD,zE,zF,zG,zH]))
    refine bodyPost_ret (results_row2 (cs:=Z) rfl rfl rfl (rangeAt_all (store_all H46.out rfl)) Tryz.underlying90 rfl HSZ.out) rfl ⟨rfl,?_⟩
    exact HK6.out.setCells (.inr (by have:=HG46.out;omega)) _ _
def DecPost (w0 w:World) (r:Ending):Option Nde→Prop
 | none=>r=.returned (.tuple #[.agg (nodeC nd0 (.slice none 0 0)).toArray,.int .i64 90])
 | some nd=>∃ a c,r=.returned (.tuple #[.agg (nodeC nd (.slice a nd.val.length c)).toArray,.int .i64 0])∧OwnB w (.slice a nd.val.length c) nd.val∧(∀ k,(Value.slice a nd.val.length c).ownBlock=some k→w0.heap.size≤k)
theorem r9Decode_any {w:World} {kind:Int} {v:Value} {l:List UInt8} (hv:BytesAt w v l) (hl:l.length≤1048576) :
  Calls Tryz.prog 86 #[.int .i64 kind,v] w fun e w'=>DecPost w w' e (decodeL kind l)∧Keeps [] w w':=by
 unfold decodeL
 by_cases h1:kind=1∧32≤l.length
 ·rw [if_pos h1]
  by_cases h2:l.length≤160
  ·rw [if_pos h2,h1.1]
   refine (r9Decode_leaf hv h1.2 h2).mono ?_
   rintro e w' ⟨a,c,he,ho,hf,hk⟩
   exact ⟨⟨a,c,he,ho,hf⟩,hk⟩
  ·rw [if_neg h2]
   obtain ⟨a,c,rfl,hc,hm⟩:=hv.form
   exact r9Decode_none (by omega) (by omega) (by omega)
 ·rw [if_neg h1]
  by_cases h2:kind=2∧l.length=80
  ·rw [if_pos h2,h2.1]
   obtain ⟨ok,hok⟩:∃ ok,ok=branchOk (le4 l 0) (le4 l 8) ((l.drop 16).take 32) (le4 l 4) (le4 l 12) ((l.drop 48).take 32):=⟨_,rfl⟩
   rw [← hok]
   refine (r9Decode_branch hv h2.2 hok).mono ?_
   rintro e w' ⟨he,hk⟩
   cases ok with
   | true =>
    rw [if_pos rfl] at he ⊢
    exact ⟨⟨none,0,he,World.ownsRow_nil _ _ _ _,fun k hk=>by simp [Value.ownBlock] at hk⟩,hk⟩
   | false =>
    rw [if_neg (by decide)] at he ⊢
    exact ⟨he,hk⟩
  ·rw [if_neg h2]
   obtain ⟨a,c,rfl,hc,hm⟩:=hv.form
   exact r9Decode_none (by omega) (by omega) h2
open Go.RowKit
set_option maxRecDepth 100000 in
set_option maxHeartbeats 800000 in
theorem r3Bit_any {w:World} {key:List UInt8} (hk:key.length=32) (i:Nat) (hi:i < 256) :
  Calls Tryz.prog 36 #[.agg (key.map B).toArray,.int .i64 i] w fun e w'=>e=.returned (.int .i64 (bitK key i:Nat))∧Keeps [] w w':=by
 obtain ⟨q8,hq8⟩:∃ q,q=i / 8:=⟨_,rfl⟩
 obtain ⟨r8,hr8⟩:∃ r,r=i % 8:=⟨_,rfl⟩
 have e1:(i:Int) / 8=(q8:Int):=by omega
 have e2:(i:Int) % 8=(r8:Int):=by omega
 have q1:(q8:Int) < 32:=by omega
 have q0:(0:Int)≤(q8:Int):=by omega
 have i0:(0:Int)≤(i:Int):=by omega
 have i9:¬ (i:Int) < 0:=by omega
 have i8:¬ (255:Int) < (i:Int):=by omega
 obtain ⟨x,hx⟩:∃ x,key[q8]?=some x:=⟨_,List.getElem?_eq_getElem (by rw [hk];omega)⟩
 obtain ⟨n,hn⟩:∃ n,n=x.toNat:=⟨_,rfl⟩
 have hcell:=blk_cell (w:=w.alloc (.cells (key.map B).toArray 60 (0,0))) (t:=60) (heap_new_at rfl) hx
 rw [← hn] at hcell
 have hn256:n < 256:=by rw [hn];exact UInt8.toNat_lt _
 have hres:bitK key i=n / 2 ^ (7 - r8) % 2:=by
  unfold bitK
  rw [← hq8,← hr8,List.getD_eq_getElem?_getD,hx,hn]
  rfl
 obtain ⟨RR,hRR⟩:∃ R,R=bitK key i:=⟨_,rfl⟩
 rw [← hRR]
 rw [hres] at hRR
 have HRR:=Lib.hid hRR
 have HR:=Lib.hid (show r8 < 8 by omega)
 clear hq8 hr8 hx hn hres hk hi hRR
 go_enter Tryz.func36,Tryz.ntmps36
 go_wp2_with fail
 go_loopw [5,6] (fun v j wr=>∃ m u:Nat,r8≤m∧m≤7∧j=.int .i64 m∧v=.int .i64 u∧u=n / 2 ^ (m - r8)∧Keeps [] w wr) (fun _ j _=>7 - (intOf j).toNat)
 case atStart=>exact ⟨r8,n,Nat.le_refl _,by have:=HR.out;omega,by first | rfl | rw [e2],rfl,by simp,(Keeps.refl _ _).alloc _⟩
 case round =>
  obtain ⟨m,u,hrm,hm,rfl,rfl,hu,hkr⟩:=hrel
  have m0:(0:Int)≤(m:Int):=by omega
  have u0:(0:Int)≤(u:Int):=by omega
  have hu256:u < 256:=by rw [hu];exact Nat.lt_of_le_of_lt (Nat.div_le_self _ _) hn256
  by_cases hlt:m < 7
  ·have m1:(m:Int) < 7:=by omega
   obtain ⟨u2,hu2⟩:∃ x,x=u / 2:=⟨_,rfl⟩
   have e3:(u:Int) / 2=(u2:Int):=by omega
   have HU:=Lib.hid (And.intro hu2 hu)
   clear hu hu2
   go_wp2_with fail
   go_roundw
   case rel =>
    refine ⟨m+1,u2,by omega,by omega,by go_num,rfl,?_,hkr⟩
    rw [HU.out.1,HU.out.2,Nat.div_div_eq_div_mul,← Nat.pow_succ,show (m - r8).succ=m+1 - r8 by omega]
   case measure=>simp [intOf];omega
  ·obtain rfl:m=7:=by omega
   have m1:¬ ((7:Nat):Int) < 7:=by omega
   obtain ⟨u2,hu2⟩:∃ x,x=u % 2:=⟨_,rfl⟩
   have e3:(u:Int) % 2=(u2:Int):=by omega
   have HU:=Lib.hid (And.intro hu2 hu)
   clear hu hu2
   go_wp2_with fail
   go_ret
   refine ⟨?_,hkr⟩
   rw [show RR=u2 by rw [HRR.out,← HU.out.2,← HU.out.1]]
   rfl
set_option maxRecDepth 100000 in
set_option maxHeartbeats 1600000 in
theorem r3Common_any {w:World} {a b:List UInt8} (ha:a.length=32) (hb:b.length=32) :
  Calls Tryz.prog 33 #[.agg (a.map B).toArray,.agg (b.map B).toArray] w fun e w'=>e=.returned (.int .i64 (commonK a b:Nat))∧Keeps [] w w':=by
 obtain ⟨R,hR⟩:∃ R,R=commonK a b:=⟨_,rfl⟩
 rw [← hR]
 obtain ⟨g2,hg2⟩:∃ x,x=w.heap.size:=⟨_,rfl⟩
 obtain ⟨wa,hwa⟩:∃ x,x=w.alloc (.cells (a.map B).toArray 60 (0,0)):=⟨_,rfl⟩
 obtain ⟨g3,hg3⟩:∃ x,x=w.heap.size+1:=⟨_,rfl⟩
 have eg3:g3=wa.heap.size:=by rw [hwa,hg3];simp
 obtain ⟨w1,hw1⟩:∃ x,x=wa.alloc (.cells (b.map B).toArray 60 (0,0)):=⟨_,rfl⟩
 have k1:Keeps [] w w1:=by rw [hw1,hwa];exact ((Keeps.refl _ _).alloc _).alloc _
 have b2:Blk w1 g2 60 a:=by rw [hw1];exact (heap_old_at (by rw [← eg3];omega)).trans (by rw [hwa];exact heap_new_at hg2)
 have b3:Blk w1 g3 60 b:=by rw [hw1];exact heap_new_at eg3
 have HR:=Lib.hid hR
 have HWA:=Lib.hid hwa
 have HW1:=Lib.hid hw1
 have HG2:=Lib.hid hg2
 have HG3:=Lib.hid hg3
 have HK1:=Lib.hid k1
 have HB2:=Lib.hid b2
 have HB3:=Lib.hid b3
 have HSA:=Lib.hid (size_key_of ha)
 have HSB:=Lib.hid (size_key_of hb)
 have HBA:=Lib.hid (fun (wx:World) (i:Nat) (hi:i < 256)=>r3Bit_any (w:=wx) ha i hi)
 have HBB:=Lib.hid (fun (wx:World) (i:Nat) (hi:i < 256)=>r3Bit_any (w:=wx) hb i hi)
 clear hR hwa hw1 hg2 hg3 eg3 k1 b2 b3 ha hb
 go_enter Tryz.func33,Tryz.ntmps33
 go_upto_region 1 with fail
 rw [← HWA.out,← HW1.out,← HG3.out,← HG2.out]
 go_wp2_with fail
 go_loopw [5] (fun iv wr=>∃ i:Nat,i≤256∧iv=.int .i64 i∧(∀ j,j < i→bitK a j=bitK b j)∧Keeps [] w1 wr) (fun iv _=>256 - (intOf iv).toNat)
 case atStart=>exact ⟨0,Nat.zero_le _,rfl,fun j hj=>by omega,Keeps.refl _ _⟩
 case round =>
  obtain ⟨i,hi,rfl,hsame,hkr⟩:=hrel
  have i0:(0:Int)≤(i:Int):=by omega
  have HS:=Lib.hid hsame
  have HKR:=Lib.hid hkr
  clear hsame hkr
  by_cases hlt:i < 256
  ·have i1:(i:Int) < 256:=by omega
   obtain ⟨x,hx⟩:∃ x,x=bitK a i:=⟨_,rfl⟩
   obtain ⟨y,hy⟩:∃ y,y=bitK b i:=⟨_,rfl⟩
   have hca:=fun (wx:World)=>HBA.out wx i hlt
   have hcb:=fun (wx:World)=>HBB.out wx i hlt
   rw [← hx] at hca
   rw [← hy] at hcb
   have HCA:=Lib.hid hca
   have HCB:=Lib.hid hcb
   have HX:=Lib.hid (And.intro hx hy)
   have HRA:=Lib.hid (rangeAt_all (HB2.out.keeps HKR.out (by simp)))
   clear hx hy hca hcb
   go_upto_region 5 with (first | (refine wpList_load_mid rfl 60 (.tmp 2) rfl g2 0 (by rfl) (a.map B) _ HRA.out Tryz.underlying60 rfl HSA.out ?_;try simp only [zA,zB,zC,zD,zE,zF,zG,zH]) | (go_at_call 36;refine (HCA.out _).mono ?_;rintro e w3 ⟨rfl,hk3⟩))
   have HRB:=Lib.hid (rangeAt_all ((HB3.out.keeps HKR.out (by simp)).keeps hk3 (by simp)))
   go_upto_region 6 with (first | (refine wpList_load_mid rfl 60 (.tmp 3) rfl g3 0 (by rfl) (b.map B) _ HRB.out Tryz.underlying60 rfl HSB.out ?_;try simp only [zA,zB,zC,zD,zE,zF,zG,zH]) | (go_at_call 36;refine (HCB.out _).mono ?_;rintro e w4 ⟨rfl,hk4⟩))
   have HK4:=Lib.hid ((HKR.out.trans (G:=[]) hk3 (by simp)).trans (G:=[]) hk4 (by simp))
   clear hk3 hk4
   by_cases hxy:x=y
   ·have e1:((x:Int) != (y:Int))=false:=by subst hxy;simp
    have HE:=Lib.hid hxy
    clear hxy
    go_wp2_with fail
    go_roundw
    case rel =>
     refine ⟨i+1,by omega,by go_num,fun j hj=>?_,HK4.out⟩
     by_cases e:j=i
     ·subst e;rw [← HX.out.1,← HX.out.2];exact HE.out
     ·exact HS.out j (by omega)
    case measure=>simp [intOf];omega
   ·have e1:((x:Int) != (y:Int))=true:=by simp;omega
    have HE:=Lib.hid hxy
    clear hxy
    go_wp2_with fail
    go_ret
    refine ⟨?_,HK1.out.trans (G:=[]) HK4.out (by simp)⟩
    have e:R=i:=by
     rw [HR.out]
     exact commonK_unique (by omega) HS.out (fun _=>by rw [← HX.out.1,← HX.out.2];exact HE.out)
    rw [e]
    rfl
  ·have i1:¬ (i:Int) < 256:=by omega
   obtain rfl:i=256:=by omega
   go_wp2_with fail
   go_ret
   refine ⟨?_,HK1.out.trans (G:=[]) HKR.out (by simp)⟩
   have e:R=256:=by
    rw [HR.out]
    exact commonK_unique (by omega) HS.out (fun h=>by omega)
   rw [e]
   rfl
open Go.RowKit
def SlIn (w:World) (v:Value) (xs:List Value) (P:Nat→Prop):Prop :=
 (xs=[]∧∃ a c,v=.slice a 0 c∧c≤maxLen)∨∃ g o cap,v=.slice (some ⟨g,o,none⟩) xs.length cap∧xs.length≤cap∧cap≤maxLen∧g < w.heap.size∧w.rangeAt g o xs∧P g
theorem SlIn.form {w:World} {v:Value} {xs:List Value} {P:Nat→Prop} (h:SlIn w v xs P):∃ a c,v=.slice a xs.length c:=by
 rcases h with ⟨rfl,a,c,rfl,_⟩ | ⟨g,o,cap,rfl,_⟩
 ·exact ⟨_,_,rfl⟩
 ·exact ⟨_,_,rfl⟩
theorem SlIn.at {w:World} {a:Option Addr} {n c:Nat} {xs:List Value} {P:Nat→Prop} (h:SlIn w (.slice a n c) xs P) (hn:0 < xs.length):∃ g o,a=some ⟨g,o,none⟩∧g < w.heap.size∧w.rangeAt g o xs∧P g:=by
 rcases h with ⟨rfl,_⟩ | ⟨g,o,cap,hv,_,_,h3,h4,h5⟩
 ·simp at hn
 ·injection hv with e _ _
  exact ⟨g,o,e,h3,h4,h5⟩
theorem SlIn.keeps {w w':World} {v:Value} {xs:List Value} {P:Nat→Prop} {F:List Nat} (h:SlIn w v xs P) (hk:Keeps F w w') (hP:∀ k,P k→k ∉ F):SlIn w' v xs P:=by
 rcases h with h | ⟨g,o,cap,hv,h1,h2,h3,h4,h5⟩
 ·exact .inl h
 ·exact .inr ⟨g,o,cap,hv,h1,h2,Nat.lt_of_lt_of_le h3 hk.size,rangeAt_of_heap h4 (hk.block g h3 (hP g h5)),h5⟩
def kindV (p:Int × List UInt8):Value:=.int .i64 p.1
structure PagesIn (w:World) (kv lv:Value) (L:List (Int × List UInt8)) (P:Nat→Prop):Prop where
 kinds:SlIn w kv (L.map kindV) P
 loads:∃ vs:List Value,vs.length=L.length∧SlIn w lv vs P∧∀ (i:Nat) (v:Value) (p:Int × List UInt8),vs[i]?=some v→L[i]?=some p→BytesAt w v p.2∧∀ k,v.elemBlock=some k→P k
theorem PagesIn.keeps {w w':World} {kv lv:Value} {L:List (Int × List UInt8)} {P:Nat→Prop} {F:List Nat} (h:PagesIn w kv lv L P) (hk:Keeps F w w') (hP:∀ k,P k→k ∉ F):PagesIn w' kv lv L P:=by
 obtain ⟨h1,vs,hl,h2,h3⟩:=h
 exact ⟨h1.keeps hk hP,vs,hl,h2.keeps hk hP,fun i v p hv hp=>⟨(h3 i v p hv hp).1.keeps hk (fun k hkk=>hP k ((h3 i v p hv hp).2 k hkk)),(h3 i v p hv hp).2⟩⟩
theorem PagesIn.forms {w:World} {kv lv:Value} {L:List (Int × List UInt8)} {P:Nat→Prop} (h:PagesIn w kv lv L P):∃ a c a2 c2,kv=.slice a L.length c∧lv=.slice a2 L.length c2:=by
 obtain ⟨a,c,e⟩:=h.kinds.form
 obtain ⟨vs,hl,h2,_⟩:=h.loads
 obtain ⟨a2,c2,e2⟩:=h2.form
 exact ⟨a,c,a2,c2,by rw [e];simp,by rw [e2,hl]⟩
set_option maxRecDepth 100000 in
theorem qNext_any {w:World} {a a2:Option Addr} {n c n2 c2:Nat} (hn:n≤1099511627776) :
  Calls Tryz.prog 8 #[.agg #[.slice a n c,.slice a2 n2 c2]] w fun e w'=>e=.returned (.int .i64 ((2+n:Nat):Int))∧Keeps [] w w':=by
 obtain ⟨N,hN⟩:∃ N,N=2+n:=⟨_,rfl⟩
 rw [← hN]
 have e1:2+(n:Int)=(N:Int):=by omega
 obtain ⟨q,hq⟩:∃ q,q=w.heap.size:=⟨_,rfl⟩
 obtain ⟨w1,hw1⟩:∃ x,x=w.alloc (.cells #[.slice a n c,.slice a2 n2 c2] 32 (0,0)):=⟨_,rfl⟩
 have k1:Keeps [] w w1:=by rw [hw1];exact (Keeps.refl _ _).alloc _
 have c0:w1.cell? ⟨q,0,none⟩=some (.slice a n c):=by rw [cell_of_row w1 q 0 _ _ _ (show w1.heap[q]?=some (.cells #[.slice a n c,.slice a2 n2 c2] 32 (0,0)) by rw [hw1];exact heap_new_at hq)];rfl
 have HW1:=Lib.hid hw1
 have HQ:=Lib.hid hq
 have HK1:=Lib.hid k1
 clear hw1 hq k1 hN
 go_enter Tryz.func8,Tryz.ntmps8
 go_upto_region 1 with fail
 rw [← HW1.out,← HQ.out]
 go_wp2_with fail
 go_ret
 exact ⟨rfl,HK1.out⟩
def keysN (n:Nde):Int:=if n.kind=1 then 1 else n.lc+n.rc
set_option maxRecDepth 100000 in
set_option maxHeartbeats 1600000 in
theorem qKeys_any {w:World} {n:Nde} {a:Option Addr} {m c:Nat} (hok:n.ok) (hb:0≤n.lc+n.rc∧n.lc+n.rc≤4096) :
  Calls Tryz.prog 87 #[.agg (nodeC n (.slice a m c)).toArray] w fun e w'=>e=.returned (.int .i64 (keysN n))∧Keeps [] w w':=by
 obtain ⟨K,hK⟩:∃ K,K=nodeC n (.slice a m c):=⟨_,rfl⟩
 obtain ⟨R,hR⟩:∃ R,R=keysN n:=⟨_,rfl⟩
 obtain ⟨kd,hkd⟩:∃ R,R=n.kind:=⟨_,rfl⟩
 obtain ⟨lc,hlc⟩:∃ R,R=n.lc:=⟨_,rfl⟩
 obtain ⟨rc,hrc⟩:∃ R,R=n.rc:=⟨_,rfl⟩
 obtain ⟨q,hq⟩:∃ q,q=w.heap.size:=⟨_,rfl⟩
 obtain ⟨w1,hw1⟩:∃ x,x=w.alloc (.cells K.toArray 90 (0,0)):=⟨_,rfl⟩
 have k1:Keeps [] w w1:=by rw [hw1];exact (Keeps.refl _ _).alloc _
 have hp:=(node_parts (w:=w1) (q:=q) (n:=n) (vv:=.slice a m c) hok (by rw [hw1,← hK];exact heap_new_at hq)).1
 have c0:=hp.1
 have c3:=hp.2.2.2.1
 have c4:=hp.2.2.2.2.1
 rw [← hkd] at c0
 rw [← hlc] at c3
 rw [← hrc] at c4
 rw [← hlc,← hrc] at hb
 have hRv:R=if kd=1 then 1 else lc+rc:=by rw [hR,hkd,hlc,hrc];rfl
 rw [← hK,← hR]
 have hb1:=hb.1
 have hb2:=hb.2
 have HR:=Lib.hid hRv
 have HW1:=Lib.hid hw1
 have HQ:=Lib.hid hq
 have HK1:=Lib.hid k1
 clear hK hR hkd hlc hrc hw1 hq k1 hp hRv hb hok
 by_cases h1:kd=1
 ·have HX:=Lib.hid (show R=1 by rw [HR.out,if_pos h1])
  go_enter Tryz.func87,Tryz.ntmps87
  go_upto_region 1 with fail
  rw [← HW1.out,← HQ.out]
  go_wp2_with fail
  go_ret
  exact ⟨by rw [HX.out];rfl,HK1.out⟩
 ·have HX:=Lib.hid (show R=lc+rc by rw [HR.out,if_neg h1])
  have hx:IntKind.i64.wrap (lc+rc)=lc+rc:=IntWalk.i64_in _ (by omega)
  go_enter Tryz.func87,Tryz.ntmps87
  go_upto_region 1 with fail
  rw [← HW1.out,← HQ.out]
  go_wp2_with fail
  go_ret
  exact ⟨by rw [HX.out];rfl,HK1.out⟩
open Go.RowKit
def standsOf (stated:Int) (key:List UInt8) (n:Nat):Option Nde→Option Nde
 | none=>none
 | some nd=>if 0≤stated∧keysN nd≠stated then none
  else if nd.kind=1 then (if n≤commonK nd.key key then some nd else none)
  else if n < 256 then some nd else none
def standsL (L:List (Int × List UInt8)) (page above stated:Int) (key:List UInt8) (n:Nat):Option Nde :=
 if page < 2∨2+(L.length:Int)≤page∨above≤page then none
 else match L[(page - 2).toNat]? with
  | none=>none
  | some p=>standsOf stated key n (decodeL p.1 p.2)
def StandsPost (w0 w:World) (r:Ending):Option Nde→Prop
 | none=>∃ X:List Value,r=.returned (.tuple #[.agg X.toArray,.bool false])∧X.length=102∧(∀ v∈X,v.oneCell'=true)
 | some nd=>∃ a c,r=.returned (.tuple #[.agg (nodeC nd (.slice a nd.val.length c)).toArray,.bool true])∧OwnB w (.slice a nd.val.length c) nd.val∧(∀ k,(Value.slice a nd.val.length c).ownBlock=some k→w0.heap.size≤k)
theorem pages_cells {w:World} {q:Nat} {kv lv:Value} (h:w.heap[q]?=some (.cells #[kv,lv] 32 (0,0))):w.cell? ⟨q,0,none⟩=some kv∧w.cell? ⟨q,1,none⟩=some lv∧w.rangeAt q 0 [kv,lv]:=by
 refine ⟨by rw [cell_of_row w q 0 _ _ _ h];rfl,by rw [cell_of_row w q 1 _ _ _ h];rfl,rangeAt_all (cs:=[kv,lv]) h⟩
theorem size_rpages:(Tryz.prog.info? 32).map (·.size)=some 2:=by kernel_rfl
set_option maxRecDepth 100000 in
set_option maxHeartbeats 1600000 in
theorem qStands_out {w:World} {a a2:Option Addr} {N c n2 c2:Nat} {key:List UInt8} (hN:N≤1099511627776) (page above stated:Int) (n:Nat) (h:page < 2∨2+(N:Int)≤page∨above≤page) :
  Calls Tryz.prog 61 #[.agg #[.slice a N c,.slice a2 n2 c2],.int .i64 page,.int .i64 above,.int .i64 stated,.agg (key.map B).toArray,.int .i64 n] w fun e w'=>StandsPost w w' e none∧Keeps [] w w':=by
 obtain ⟨Z,hZ,hZi,hZ1,hZb⟩:∃ Z:List Value,Z.length=102∧(Tryz.prog.info? 90).map (fun i=>(i.zero,i.size,i.bytes))=some (some (.agg Z.toArray),102,160)∧(∀ v∈Z,v.oneCell'=true)∧Z=nodeC nd0 (.slice none 0 0):=⟨_,nodeC_length nd0_ok _,info_node,nodeC_ones,rfl⟩
 have hbz:=run_build_node0
 rw [← hZb] at hbz
 obtain ⟨q6,hq6⟩:∃ x,x=w.heap.size:=⟨_,rfl⟩
 obtain ⟨wa,hwa⟩:∃ x,x=w.alloc (.cells #[.slice a N c,.slice a2 n2 c2] 32 (0,0)):=⟨_,rfl⟩
 obtain ⟨q10,hq10⟩:∃ x,x=w.heap.size+1:=⟨_,rfl⟩
 have eq10:q10=wa.heap.size:=by rw [hwa,hq10];simp
 obtain ⟨wb,hwb⟩:∃ x,x=wa.alloc (.cells (key.map B).toArray 60 (0,0)):=⟨_,rfl⟩
 obtain ⟨q12,hq12⟩:∃ x,x=wb.heap.size:=⟨_,rfl⟩
 have e12:q12=w.heap.size+2:=by rw [hq12,hwb,hwa];simp
 obtain ⟨w1,hw1⟩:∃ x,x=wb.alloc (.cells Z.toArray 90 (0,0)):=⟨_,rfl⟩
 have k1:Keeps [] w w1:=by rw [hw1,hwb,hwa];exact (((Keeps.refl _ _).alloc _).alloc _).alloc _
 have b6:w1.heap[q6]?=some (.cells #[.slice a N c,.slice a2 n2 c2] 32 (0,0)):=by rw [hw1];exact (heap_old_at (by rw [← hq12];omega)).trans (by rw [hwb];exact (heap_old_at (by rw [← eq10];omega)).trans (by rw [hwa];exact heap_new_at hq6))
 have b12:w1.heap[q12]?=some (.cells Z.toArray 90 (0,0)):=by rw [hw1];exact heap_new_at hq12
 have hnx:=fun (wx:World)=>qNext_any (w:=wx) (a:=a) (a2:=a2) (n:=N) (c:=c) (n2:=n2) (c2:=c2) hN
 obtain ⟨M,hM⟩:∃ M:Nat,M=2+N:=⟨_,rfl⟩
 rw [← hM] at hnx
 have HNX:=Lib.hid hnx
 have HZ:=Lib.hid (And.intro hZ hZ1)
 have HZI:=Lib.hid hZi
 have HBZ:=Lib.hid hbz
 have HQ6:=Lib.hid hq6
 have HWA:=Lib.hid hwa
 have HQ10:=Lib.hid hq10
 have HWB:=Lib.hid hwb
 have HQ12:=Lib.hid hq12
 have HE12:=Lib.hid e12
 have HW1:=Lib.hid hw1
 have HK1:=Lib.hid k1
 have HB12:=Lib.hid b12
 have HR6:=Lib.hid (pages_cells b6).2.2
 have HS6:=Lib.hid (show (Tryz.prog.info? 32).map (·.size)=some ([Value.slice a N c,.slice a2 n2 c2]:List Value).length from size_rpages)
 have HSZ:=Lib.hid (show (Tryz.prog.info? 90).map (·.size)=some Z.length by rw [hZ];exact size_node)
 have hMi:(2:Int)+(N:Int)=(M:Int):=by omega
 rw [hMi] at h
 clear hZ hZi hZ1 hZb hbz hq6 hwa hq10 eq10 hwb hq12 e12 hw1 k1 b6 b12 hnx hM hMi
 by_cases h1:page < 2
 ·clear h
  go_enter Tryz.func61,Tryz.ntmps61
  go_upto_region 1 with (first | (refine wl_alloc rfl 90 rfl ?_;refine ⟨_,_,run_alloc _ HZI.out,?_⟩;try simp only [zA,zB,zC,zD,zE,zF,zG,zH]))
  try simp only [Value.cells]
  rw [← HWA.out,← HWB.out,← HW1.out,← HQ12.out,← HQ10.out,← HQ6.out]
  go_wp2_with (first | (refine wl_build rfl 90 #[] #[] rfl (by simp [Act.eval]) ?_;refine ⟨_,_,HBZ.out _,?_⟩;try simp only [zA,zB,zC,zD,zE,zF,zG,zH]) | (refine wl_store rfl 90 (.tmp 12) (.tmp 29) rfl ?_;refine ⟨_,run_store_node HB12.out HZ.out.1 HZ.out.1 HZ.out.2,?_⟩;try simp only [zA,zB,zC,zD,zE,zF,zG,zH]))
  refine bodyPost_ret (results_row2 (cs:=Z) rfl rfl rfl (rangeAt_all (store_all HB12.out rfl)) Tryz.underlying90 rfl HSZ.out) rfl ⟨⟨Z,rfl,HZ.out.1,HZ.out.2⟩,?_⟩
  exact HK1.out.setCells (.inr (by have:=HE12.out;omega)) _ _
 ·by_cases h2:(M:Int)≤page
  ·clear h
   go_enter Tryz.func61,Tryz.ntmps61
   go_upto_region 1 with (first | (refine wl_alloc rfl 90 rfl ?_;refine ⟨_,_,run_alloc _ HZI.out,?_⟩;try simp only [zA,zB,zC,zD,zE,zF,zG,zH]))
   try simp only [Value.cells]
   rw [← HWA.out,← HWB.out,← HW1.out,← HQ12.out,← HQ10.out,← HQ6.out]
   go_upto_region 2 with (first | (refine Go.BigFrame.wpList_want (by rfl) fun K hK=>wp_load_mid 32 (.tmp 6) rfl q6 0 (by rfl) [.slice a N c,.slice a2 n2 c2] _ HR6.out Tryz.underlying32 rfl HS6.out (hK _ _ ?_);try simp only [zA,zB,zC,zD,zE,zF,zG,zH]) | (go_at_call 8;refine (HNX.out _).mono ?_;rintro e w2 ⟨rfl,hk2⟩))
   have HB2:=Lib.hid ((hk2.block q12 (lt_of_heap HB12.out) (by simp)).trans HB12.out)
   have HK2:=Lib.hid (HK1.out.trans (G:=[]) hk2 (by simp))
   clear hk2
   go_wp2_with (first | (refine wl_build rfl 90 #[] #[] rfl (by simp [Act.eval]) ?_;refine ⟨_,_,HBZ.out _,?_⟩;try simp only [zA,zB,zC,zD,zE,zF,zG,zH]) | (refine wl_store rfl 90 (.tmp 12) (.tmp 29) rfl ?_;refine ⟨_,run_store_node HB2.out HZ.out.1 HZ.out.1 HZ.out.2,?_⟩;try simp only [zA,zB,zC,zD,zE,zF,zG,zH]))
   refine bodyPost_ret (results_row2 (cs:=Z) rfl rfl rfl (rangeAt_all (store_all HB2.out rfl)) Tryz.underlying90 rfl HSZ.out) rfl ⟨⟨Z,rfl,HZ.out.1,HZ.out.2⟩,?_⟩
   exact HK2.out.setCells (.inr (by have:=HE12.out;omega)) _ _
  ·have h3:above≤page:=by omega
   clear h
   go_enter Tryz.func61,Tryz.ntmps61
   go_upto_region 1 with (first | (refine wl_alloc rfl 90 rfl ?_;refine ⟨_,_,run_alloc _ HZI.out,?_⟩;try simp only [zA,zB,zC,zD,zE,zF,zG,zH]))
   try simp only [Value.cells]
   rw [← HWA.out,← HWB.out,← HW1.out,← HQ12.out,← HQ10.out,← HQ6.out]
   go_upto_region 2 with (first | (refine Go.BigFrame.wpList_want (by rfl) fun K hK=>wp_load_mid 32 (.tmp 6) rfl q6 0 (by rfl) [.slice a N c,.slice a2 n2 c2] _ HR6.out Tryz.underlying32 rfl HS6.out (hK _ _ ?_);try simp only [zA,zB,zC,zD,zE,zF,zG,zH]) | (go_at_call 8;refine (HNX.out _).mono ?_;rintro e w2 ⟨rfl,hk2⟩))
   have HB2:=Lib.hid ((hk2.block q12 (lt_of_heap HB12.out) (by simp)).trans HB12.out)
   have HK2:=Lib.hid (HK1.out.trans (G:=[]) hk2 (by simp))
   clear hk2
   go_wp2_with (first | (refine wl_build rfl 90 #[] #[] rfl (by simp [Act.eval]) ?_;refine ⟨_,_,HBZ.out _,?_⟩;try simp only [zA,zB,zC,zD,zE,zF,zG,zH]) | (refine wl_store rfl 90 (.tmp 12) (.tmp 29) rfl ?_;refine ⟨_,run_store_node HB2.out HZ.out.1 HZ.out.1 HZ.out.2,?_⟩;try simp only [zA,zB,zC,zD,zE,zF,zG,zH]))
   refine bodyPost_ret (results_row2 (cs:=Z) rfl rfl rfl (rangeAt_all (store_all HB2.out rfl)) Tryz.underlying90 rfl HSZ.out) rfl ⟨⟨Z,rfl,HZ.out.1,HZ.out.2⟩,?_⟩
   exact HK2.out.setCells (.inr (by have:=HE12.out;omega)) _ _
end Go.Proofs.YtakaocenbempmaaGreatDoor
