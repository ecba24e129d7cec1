/-
  Lemmas of a claim, bundle e: XQJ XPrS.
-/
import Derived.Deep.CutBlock
import Derived.Deep.DeepCutAuto
import Derived.Test.YtakaocenbempmaaGreatDoorPfc
import Derived.Test.YtakaocenbempmaaGreatDoorPfb
import Derived.Test.YtakaocenbempmaaGreatDoorPfT
import Derived.Test.YtakaocenbempmaaGreatDoorPfd
set_option linter.unusedVariables false
set_option linter.unusedSimpArgs false
namespace Go.Proofs.YtakaocenbempmaaGreatDoor
open Go.RowKit
theorem proof_not_bytes:¬ (57:TypeId)=5:=by decide
theorem rPSet_C {w wr wc:World} {f:Bool} {vb bits:List UInt8} {av:Option Addr} {nv cv:Nat} {sv:Value} {ones:List (List UInt8)} {ge ce k h:Nat} {C:List Value} (hC:C=pfCells ⟨f,vb,bits,[]⟩ (.slice av nv cv) sv) (hbits:bits.length=32) (hesr:ge < wr.heap.size∧wr.rangeAt ge 0 (sumCells (emptiesL k 257))) (hk:k≤32) (hown:wr.ownsRow wc.heap.size 88 32 sv ones.length (sumCells ones)) (hsz:wc.heap.size≤wr.heap.size) (hlen:ones.length≤300) (hlow:(bits.getD (h / 8) 0).toNat < 2 ^ (h % 8)) (hx:Keeps [] wr w) (hh:h < 256) {d:List UInt8} (hd:d.length=32) :
  Calls Tryz.prog 37 #[.agg C.toArray,.slice (some ⟨ge,0,none⟩) 257 ce,.int .i64 h,.agg (d.map B).toArray] w fun e w'=>∃ sv',e=.returned (.agg (pfCells ⟨f,vb,setBits bits h d (emptyD k h),[]⟩ (.slice av nv cv) sv').toArray)∧w'.ownsRow wc.heap.size 88 32 sv' (setOnes ones d (emptyD k h)).length (sumCells (setOnes ones d (emptyD k h)))∧(∀ (F:List Nat) (wa:World),Keeps F wa w→wa.heap.size≤wc.heap.size→Keeps F wa w')∧(∀ j,j < w.heap.size→sv.ownBlock≠some j→w'.heap[j]?=w.heap[j]?)∧w.heap.size≤w'.heap.size:=by
 subst hC
 exact rPSet_any hbits (rangeAt_of_heap hesr.2 (hx.block ge hesr.1 (by simp))) (Nat.lt_of_lt_of_le hesr.1 hx.size) hk hh hd (ownsRow_keep hown (fun i hi=>hx.block i (World.ownsRow.lt hown i hi).2 (by simp))) (Nat.le_trans hsz hx.size) hlen hlow
set_option maxRecDepth 100000 in
set_option maxHeartbeats 25600000 in
theorem rPOver_some {w:World} {kv lv:Value} {L:List (Int × List UInt8)} {P:Nat→Prop} {key:List UInt8} (hp:PagesIn w kv lv L P) (hL:L.length≤1048576) (hld:∀ p∈L,p.2.length≤1048576) (hk:key.length=32) (n:Int) (k:Nat) (hkn:(k:Int)=max 0 (min n 32)) (ht:RTabs w) (root:Int) {fuel:Nat} (hf:2+L.length < fuel) (hr0:¬ root < 2∨root=0) (hr1:¬ 2+(L.length:Int)≤root∨root=0) {ns:List Nde} (hPR:pathL L key fuel root (2+(L.length:Int)) (-1) 0=some ns) :
  Calls Tryz.prog 13 #[.int .i64 n,.agg #[kv,lv],.int .i64 root,.agg (key.map B).toArray] w fun e w'=>(∃ (o:OverEnd) (vv sv:Value),EndOk ns key k o∧e=.returned (.tuple #[.agg (pfCells (overPf ns key k o) vv sv).toArray,.int .i64 0])∧OwnB w' vv o.val∧SumsAt w' sv (overPf ns key k o).sums∧∀ i,sv.ownBlock=some i→w.heap.size≤i)∧Keeps [] w w':=by
 obtain ⟨Z,⟨hZ,hZi,hZ1⟩,hZb⟩:∃ Z:List Value,(Z.length=35∧(Tryz.prog.info? 57).map (fun i=>(i.zero,i.size,i.bytes))=some (some (.agg Z.toArray),35,88)∧(∀ v∈Z,v.oneCell'=true))∧Z=pfZC:=⟨_,pfZC_spec,rfl⟩
 have hbz:∀ w,(Instr.build 57 #[]).run Tryz.prog w=.ok (.agg Z.toArray) w:=fun w=>by rw [hZb];exact run_build_pfZ w
 obtain ⟨a,c,a2,c2,rfl,rfl⟩:=hp.forms
 obtain ⟨N,hN⟩:∃ N,N=L.length:=⟨_,rfl⟩
 obtain ⟨q5,hq5⟩:∃ x,x=w.heap.size:=⟨_,rfl⟩
 obtain ⟨wa,hwa⟩:∃ x,x=w.alloc (.cells #[.slice a L.length c,.slice a2 L.length c2] 32 (0,0)):=⟨_,rfl⟩
 obtain ⟨q7,hq7⟩:∃ x,x=w.heap.size+1:=⟨_,rfl⟩
 have eq7:q7=wa.heap.size:=by rw [hwa,hq7];simp
 obtain ⟨wb,hwb⟩:∃ x,x=wa.alloc (.cells (key.map B).toArray 60 (0,0)):=⟨_,rfl⟩
 obtain ⟨q8,hq8⟩:∃ x,x=wb.heap.size:=⟨_,rfl⟩
 have e8:q8=w.heap.size+2:=by rw [hq8,hwb,hwa];simp
 obtain ⟨w1,hw1⟩:∃ x,x=wb.alloc (.cells Z.toArray 57 (0,0)):=⟨_,rfl⟩
 have k1:Keeps [] w w1:=by rw [hw1,hwb,hwa];exact (((Keeps.refl _ _).alloc _).alloc _).alloc _
 have b5:w1.heap[q5]?=some (.cells #[.slice a L.length c,.slice a2 L.length c2] 32 (0,0)):=by rw [hw1];exact (heap_old_at (by rw [← hq8];omega)).trans (by rw [hwb];exact (heap_old_at (by rw [← eq7];omega)).trans (by rw [hwa];exact heap_new_at hq5))
 have b7:Blk w1 q7 60 key:=by rw [hw1];exact (heap_old_at (by rw [← hq8];omega)).trans (by rw [hwb];exact heap_new_at eq7)
 have b8:w1.heap[q8]?=some (.cells Z.toArray 57 (0,0)):=by rw [hw1];exact heap_new_at hq8
 have hnx:=fun (wx:World)=>qNext_any (w:=wx) (a:=a) (a2:=a2) (n:=L.length) (c:=c) (n2:=L.length) (c2:=c2) (by omega)
 obtain ⟨M,hM⟩:∃ M:Nat,M=2+L.length:=⟨_,rfl⟩
 rw [← hM] at hnx
 have hMi:2+(L.length:Int)=(M:Int):=by omega
 have hpok:=pathL_ok hPR
 have hpath:=fun (wx:World) (h:Keeps [] w wx)=>qPath_any (hp.keeps h (by simp)) hL hld hk root fuel hf
 rw [hPR] at hpath
 have hk32:k≤32:=by omega
 have hemp:=fun (wx:World) (h:Keeps [] w wx)=>r9Empties_any (w:=wx) n k hkn (ht.keeps h (by simp) (by simp))
 have hcond:(root=0∨(2≤root∧root < (M:Int))):=by omega
 rw [← hN] at hnx b5 hwa hpath ⊢
 obtain ⟨Zd,hZd,hZdi⟩:=info_dig
 obtain ⟨Zn,hZn,hZni⟩:=info_node2
 have HNX:=Lib.hid hnx
 have HZ:=Lib.hid (And.intro hZ hZ1)
 have HZI:=Lib.hid hZi
 have HBZ:=Lib.hid hbz
 have HQ5:=Lib.hid hq5
 have HWA:=Lib.hid hwa
 have HQ7:=Lib.hid hq7
 have HWB:=Lib.hid hwb
 have HQ8:=Lib.hid hq8
 have HE8:=Lib.hid e8
 have HW1:=Lib.hid hw1
 have HK1:=Lib.hid k1
 have HB5:=Lib.hid b5
 have HB7:=Lib.hid b7
 have HB8:=Lib.hid b8
 have HSP:=Lib.hid (show (Tryz.prog.info? 32).map (·.size)=some ([Value.slice a N c,.slice a2 N c2]:List Value).length from size_rpages)
 have HSK:=Lib.hid (size_key_of hk)
 have HSZ:=Lib.hid (show (Tryz.prog.info? 57).map (·.size)=some Z.length by rw [hZ];exact size_proof)
 have HPATH:=Lib.hid hpath
 have HEMP:=Lib.hid hemp
 have HPOK:=Lib.hid hpok
 have HZB:=Lib.hid hZb
 have HZD:=Lib.hid hZd
 have HZDI:=Lib.hid hZdi
 have HZN:=Lib.hid hZn
 have HZNI:=Lib.hid hZni
 have HT:=Lib.hid ht
 have HKL:=Lib.hid hk
 have HKN:=Lib.hid (And.intro hkn hk32)
 clear hZ hZi hZ1 hbz hq5 hwa hq7 eq7 hwb hq8 e8 hw1 k1 b5 b7 b8 hnx hp hL hld hk ht hN hZb hM hMi hPR hpok hf hpath hemp hkn hr0 hr1 hZd hZdi hZn hZni hk32
 have hgoal:True:=trivial
 go_enter Tryz.func13,Tryz.ntmps13
 go_upto_region 1 with (first | (refine wl_alloc rfl 57 rfl ?_;refine ⟨_,_,run_alloc _ HZI.out,?_⟩;try simp only [zA,zB,zC,zD,zE,zF,zG,zH]))
 try simp only [Value.cells]
 rw [← HWA.out,← HWB.out,← HW1.out,← HQ8.out,← HQ7.out,← HQ5.out]
 have HR5:=Lib.hid (pages_cells HB5.out).2.2
 go_upto_region 2 with (first | (refine wpList_load_mid rfl 32 (.tmp 5) rfl q5 0 (by rfl) [.slice a N c,.slice a2 N c2] _ HR5.out Tryz.underlying32 rfl HSP.out ?_;try simp only [zA,zB,zC,zD,zE,zF,zG,zH]) | (go_at_call 8;refine (HNX.out _).mono ?_;rintro e w2 ⟨rfl,hk2⟩))
 have HK2:=Lib.hid hk2
 clear hk2 HR5
 clear hgoal
 go_cut [39] (fun v39 wx=>v39=.bool false∧Keeps [] w2 wx)
 case first =>
  rcases hcond with h0 | ⟨r1,r2⟩
  ·subst h0
   go_wp2_with fail
   go_meet
   case rel=>exact ⟨rfl,Keeps.refl _ _⟩
  ·have r1':¬ root < 2:=by omega
   have r2':¬ (M:Int)≤root:=by omega
   by_cases h0:root=0
   ·subst h0
    go_wp2_with fail
    go_meet
    case rel=>exact ⟨rfl,Keeps.refl _ _⟩
   ·go_wp2_with fail
    go_meet
    case rel=>exact ⟨rfl,Keeps.refl _ _⟩
 case rest =>
  obtain ⟨rfl,hcut⟩:=hcut
  have HKC:=Lib.hid (HK2.out.trans (G:=[]) hcut (by simp))
  clear hcut hcond HK2
  go_upto_region 5 with (first | (go_at_call 30;refine (HEMP.out wc (HK1.out.trans (G:=[]) HKC.out (by simp))).mono ?_;rintro e w3 ⟨ve,rfl,hoe,hk3⟩))
  have HK3:=Lib.hid (HKC.out.trans (G:=[]) hk3 (by simp))
  obtain ⟨ge,ce,rfl,hgel,hgeb,hrng⟩:=own_range hoe (by omega)
  have HOE:=Lib.hid (And.intro hgel (And.intro hgeb hrng))
  have HR5:=Lib.hid (pages_cells ((HK3.out.block q5 (lt_of_heap HB5.out) (by simp)).trans HB5.out)).2.2
  have HR7:=Lib.hid (rangeAt_all (HB7.out.keeps HK3.out (by simp)))
  have HPA:=Lib.hid (HPATH.out w3 (HK1.out.trans (G:=[]) HK3.out (by simp)))
  clear hk3 hoe hgel hgeb hrng HKC
  go_upto_region 6 with (first | (refine wpList_load_mid rfl 32 (.tmp 5) rfl q5 0 (by rfl) [.slice a N c,.slice a2 N c2] _ HR5.out Tryz.underlying32 rfl HSP.out ?_;try simp only [zA,zB,zC,zD,zE,zF,zG,zH]) | (refine wpList_load_mid rfl 60 (.tmp 7) rfl q7 0 (by rfl) (key.map B) _ HR7.out Tryz.underlying60 rfl HSK.out ?_;try simp only [zA,zB,zC,zD,zE,zF,zG,zH]) | (go_at_call 31;refine HPA.out.mono ?_;rintro e w4 ⟨⟨vp,ps,rfl,hpns,hpin⟩,hk4⟩))
  obtain ⟨pa,pc,rfl⟩:=own_form hpin.row
  have hpl:ps.length=ns.length:=by rw [← hpns];simp
  rw [hpl]
  obtain ⟨m,hm⟩:∃ m,m=ns.length:=⟨_,rfl⟩
  rw [← hm]
  have hm257:m≤1000000:=by
   by_cases hz:m=0
   ·omega
   ·obtain ⟨nd,hnd⟩:∃ nd,ns[m - 1]?=some nd:=⟨_,List.getElem?_eq_getElem (by omega)⟩
    rcases HPOK.out (m - 1) nd hnd with ⟨k,v,_,h1,_,h2,h3⟩ | ⟨lp,lc,ls,rp,rc,rs,_,_,_,_,h⟩
    ·have:=commonK_le k key;omega
    ·omega
  have K4:=Lib.hid (HK3.out.trans (G:=[]) hk4 (by simp))
  have HPIN:=Lib.hid hpin
  have HPNS:=Lib.hid (And.intro hpns (And.intro hpl hm))
  have HES4:=Lib.hid (show ge < w4.heap.size∧w4.rangeAt ge 0 (sumCells (emptiesL k 257)) from ⟨Nat.lt_of_lt_of_le HOE.out.1 hk4.size,rangeAt_of_heap HOE.out.2.2 (hk4.block ge HOE.out.1 (by simp))⟩)
  obtain ⟨g14,hg14⟩:∃ x,x=w4.heap.size:=⟨_,rfl⟩
  obtain ⟨w5,hw5⟩:∃ x,x=w4.alloc (.cells Z.toArray 57 (0,0)):=⟨_,rfl⟩
  obtain ⟨g17,hg17⟩:∃ x,x=w5.heap.size:=⟨_,rfl⟩
  obtain ⟨wz,hwz⟩:∃ x,x=(w5.alloc (.cells (Zd.map B).toArray 88 (0,0))).setCells g17 0 (z32.map B):=⟨_,rfl⟩
  have e17:g17=w4.heap.size+1:=by rw [hg17,hw5];simp
  have b14:w5.heap[g14]?=some (.cells Z.toArray 57 (0,0)):=by rw [hw5];exact heap_new_at hg14
  have k45:Keeps [] w4 w5:=by rw [hw5];exact (Keeps.refl _ _).alloc _
  have b17:Blk wz g17 88 z32:=by rw [hwz];exact dig_store (heap_new_at hg17) (by rw [HZD.out];rfl)
  have k5z:Keeps [] w5 wz:=by rw [hwz];exact ((Keeps.refl _ _).alloc _).setCells (.inr (by omega)) _ _
  have b14z:wz.heap[g14]?=some (.cells Z.toArray 57 (0,0)):=(k5z.block g14 (lt_of_heap b14) (by simp)).trans b14
  have hst17:=run_store_dig (x:=z32) (w:=w5.alloc (.cells (Zd.map B).toArray 88 (0,0))) (q:=g17) (heap_new_at hg17) HZD.out rfl
  rw [← hwz] at hst17
  have HW5:=Lib.hid hw5
  have HG14:=Lib.hid hg14
  have HG17:=Lib.hid (And.intro hg17 e17)
  have HST17:=Lib.hid hst17
  have HB14:=Lib.hid b14z
  have HB17:=Lib.hid b17
  have HK4Z:=Lib.hid (k45.trans (G:=[]) k5z (by simp))
  clear hk4 hpns hpin hpl hm hg14 hw5 hg17 hwz e17 b14 k45 b17 k5z b14z hst17 HR5 HPA HOE HK3
  go_upto_block 0 with (first | (refine wl_alloc rfl 57 rfl ?_;refine ⟨_,_,run_alloc _ HZI.out,?_⟩;(try simp only [Value.cells]);rw [← HW5.out,← HG14.out];try simp only [zA,zB,zC,zD,zE,zF,zG,zH]) | (refine wl_build rfl 88 #[] #[] rfl (by simp [Act.eval]) ?_;refine ⟨_,_,run_build_dig0 _,?_⟩;try simp only [zA,zB,zC,zD,zE,zF,zG,zH]) | (refine wl_alloc rfl 88 rfl ?_;refine ⟨_,_,run_alloc _ HZDI.out,?_⟩;(try simp only [Value.cells]);rw [← HG17.out.1];try simp only [zA,zB,zC,zD,zE,zF,zG,zH]) | (refine wl_store rfl 88 (.tmp 17) (.tmp 53) rfl ?_;refine ⟨_,HST17.out,?_⟩;try simp only [zA,zB,zC,zD,zE,zF,zG,zH]))
  have HKWZ:=Lib.hid ((HK1.out.trans (G:=[]) K4.out (by simp)).trans (G:=[]) HK4Z.out (by simp))
  have HPV4:=Lib.hid (show ∀ wx:World,Keeps [] wz wx→PathIn wx w3.heap.size (.slice pa ps.length pc) ps from fun wx hx=>by
   have h4:=HK4Z.out.trans (G:=[]) hx (by simp)
   exact ⟨ownsRow_keep HPIN.out.row (fun j hj=>h4.block j (World.ownsRow.lt HPIN.out.row j hj).2 (by simp)),fun p hp=>by
    obtain ⟨h1,a,c,h2,h3⟩:=HPIN.out.vals p hp
    exact ⟨h1,a,c,h2,ownsRow_keep h3 (fun j hj=>h4.block j (World.ownsRow.lt h3 j hj).2 (by simp))⟩⟩)
  have HESZ:=Lib.hid (fun (wx:World) (hx:Keeps [] wz wx)=>(show ge < wx.heap.size∧wx.rangeAt ge 0 (sumCells (emptiesL k 257)) from by
   have h4:=HK4Z.out.trans (G:=[]) hx (by simp)
   exact ⟨Nat.lt_of_lt_of_le HES4.out.1 h4.size,rangeAt_of_heap HES4.out.2 (h4.block ge HES4.out.1 (by simp))⟩))
  have HGZ:=Lib.hid (show g14 < wz.heap.size∧g17 < wz.heap.size∧g14 < g17∧w.heap.size≤g14 by
   have h1:=lt_of_heap HB14.out
   have h2:=lt_of_heap HB17.out
   have h3:=HG14.out
   have h4:=HG17.out.2
   have h5:=(HK1.out.trans (G:=[]) K4.out (by simp)).size
   omega)
  have HR7Z:=Lib.hid (fun (wx:World) (hx:Keeps [] wz wx)=>rangeAt_all (HB7.out.keeps ((K4.out.trans (G:=[]) HK4Z.out (by simp)).trans (G:=[]) hx (by simp)) (by simp)))
  have HTZ:=Lib.hid (fun (wx:World) (hx:Keeps [] wz wx)=>HT.out.keeps (HKWZ.out.trans (G:=[]) hx (by simp)) (by simp) (by simp))
  have HGW:=Lib.hid (show w4.heap.size≤g14 by rw [HG14.out];exact Nat.le_refl _)
  clear HW5 HG14 HG17 HST17
  go_cut [15,16] (fun bv lav wx=>∃ (o:OverEnd) (vv:Value),wx.ownsRow wz.heap.size 88 32 bv o.m (sumCells (besL ns key k o.m))∧EndOk ns key k o∧lav=.int .i64 o.la∧wx.heap[g14]?=some (.cells (pfCells ⟨o.found,o.val,List.replicate 32 0,[]⟩ vv (.slice none 0 0)).toArray 57 (0,0))∧OwnB wx vv o.val∧(∀ j,vv.ownBlock=some j→wz.heap.size≤j)∧o.ls.length=32∧Blk wx g17 88 o.ls∧o.m≤256∧(-1≤o.la∧o.la < 256)∧Keeps [g14,g17] wz wx)
  case first =>
   go_wp2_with fail
   go_loopw [15,16,18] (fun bv lav iv wr=>∃ i:Nat,i≤m∧iv=.int .i64 i∧lav=.int .i64 (-1)∧wr.ownsRow wz.heap.size 88 32 bv i (sumCells (besL ns key k i))∧(∀ j nd,j < i→ns[j]?=some nd→nd.kind≠1)∧Keeps [] wz wr) (fun _ _ iv _=>m - (intOf iv).toNat)
   case atStart=>exact ⟨0,Nat.zero_le _,rfl,rfl,World.ownsRow_nil _ _ _ _,fun j nd hj=>by omega,Keeps.refl _ _⟩
   case round =>
    obtain ⟨i,hi,rfl,rfl,hown,hbr,hkr⟩:=hrel
    obtain ⟨ba,bc,rfl⟩:=own_form hown
    have i0:(0:Int)≤(i:Int):=by omega
    have HOWN:=Lib.hid hown
    have HBR:=Lib.hid hbr
    have HKR:=Lib.hid hkr
    have hsz:=hkr.size
    clear hown hbr hkr
    by_cases hlt:i < m
    ·obtain ⟨p,hpi⟩:∃ p,ps[i]?=some p:=⟨_,List.getElem?_eq_getElem (by rw [HPNS.out.2.1,← HPNS.out.2.2];exact hlt)⟩
     obtain ⟨nd,nv⟩:=p
     have hnsi:ns[i]?=some nd:=by rw [← HPNS.out.1,List.getElem?_map,hpi];rfl
     have hin:=HPV4.out wr HKR.out
     obtain ⟨hok,na,nc,hnv,hno⟩:=hin.vals (nd,nv) (List.mem_of_getElem? hpi)
     dsimp only at hok hnv hno
     obtain ⟨xs,zs,hcells,hxl⟩:=path_at (fun p hp=>(hin.vals p hp).1) hpi
     obtain ⟨gp,cp,hpe,hgp,hgpb,hprng⟩:=own_range hin.row (by rw [HPNS.out.2.1,← HPNS.out.2.2];omega)
     injection hpe with e1 _ e3
     subst e1 e3
     rw [hcells] at hprng
     have hpr:=range_part hprng
     rw [hxl,Nat.zero_add] at hpr
     obtain ⟨NC,hNC⟩:∃ NC,NC=nodeC nd nv:=⟨_,rfl⟩
     have hNCl:NC.length=102:=by rw [hNC];exact nodeC_length hok _
     have hNC1:∀ v∈NC,v.oneCell'=true:=by rw [hNC,hnv];exact nodeC_ones
     rw [← hNC] at hpr
     have i1:(i:Int) < (m:Int):=by omega
     obtain ⟨g19,hg19⟩:∃ x,x=wr.heap.size:=⟨_,rfl⟩
     obtain ⟨w6,hw6⟩:∃ x,x=(wr.alloc (.cells Zn.toArray 90 (0,0))).setCells g19 0 NC:=⟨_,rfl⟩
     have hst19:=run_store_node (w:=wr.alloc (.cells Zn.toArray 90 (0,0))) (q:=g19) (heap_new_at hg19) HZN.out hNCl hNC1
     rw [← hw6] at hst19
     have b19:w6.heap[g19]?=some (.cells NC.toArray 90 (0,0)):=by rw [hw6];exact store_all (heap_new_at hg19) (by rw [HZN.out,hNCl])
     have k6:Keeps [] wr w6:=by rw [hw6];exact ((Keeps.refl _ _).alloc _).setCells (.inr (by omega)) _ _
     have hparts:=fun (wx:World) (hx:wx.heap[g19]?=w6.heap[g19]?)=>node_parts (w:=wx) hok (by rw [← hNC];exact hx.trans b19)
     have HPR:=Lib.hid hpr
     have HSN:=Lib.hid (show (Tryz.prog.info? 90).map (·.size)=some NC.length by rw [hNCl];exact size_node)
     have HST19:=Lib.hid hst19
     have HG19:=Lib.hid hg19
     have HW6:=Lib.hid hw6
     have HPARTS:=Lib.hid hparts
     have HB19:=Lib.hid (lt_of_heap b19)
     have HK6:=Lib.hid k6
     have HK6Z:=Lib.hid (HKR.out.trans (G:=[]) k6 (by simp))
     have HNO:=Lib.hid (show OwnB w6 nv nd.val from ownsRow_keep hno (fun j hj=>k6.block j (World.ownsRow.lt hno j hj).2 (by simp)))
     have HNV:=Lib.hid hnv
     have HOK:=Lib.hid hok
     have HNS:=Lib.hid hnsi
     have ck:=(hparts w6 rfl).1.1
     clear hpi hin hno hcells hxl hgp hgpb hprng hpr hNC hNCl hNC1 hg19 hw6 hst19 b19 k6 hparts hnv hok hnsi
     go_upto_region 16 with (first | (refine wpList_load_mid rfl 90 (.tmp 62) rfl gp (i * 102) (by rfl) NC _ HPR.out Tryz.underlying90 rfl HSN.out ?_;try simp only [zA,zB,zC,zD,zE,zF,zG,zH]) | (refine wl_alloc rfl 90 rfl ?_;refine ⟨_,_,run_alloc _ HZNI.out,?_⟩;(try simp only [Value.cells]);rw [← HG19.out];try simp only [zA,zB,zC,zD,zE,zF,zG,zH]) | (refine wl_store rfl 90 (.tmp 19) (.tmp 63) rfl ?_;refine ⟨_,HST19.out,?_⟩;try simp only [zA,zB,zC,zD,zE,zF,zG,zH]))
     by_cases hkd:nd.kind=1
     ·have ck':w6.cell? ⟨g19,0,none⟩=some (.int .i64 1):=by rw [← hkd];exact ck
      obtain ⟨hkl2,hvl,hcm,hlast⟩:nd.key.length=32∧nd.val.length≤128∧i≤commonK nd.key key∧ns.length=i+1:=by
       rcases HPOK.out i nd HNS.out with ⟨lk,lv,rfl,h1,h2,h3,h4⟩ | ⟨lp,lc,ls,rp,rc,rs,rfl,_⟩
       ·exact ⟨h1,h2,by show i≤commonK lk key;omega,h4⟩
       ·exact absurd hkd (by show ¬ (2:Int)=1;decide)
      have hc256:=commonK_le nd.key key
      have HKD:=Lib.hid (And.intro hkd (And.intro hkl2 (And.intro hvl (And.intro hcm (And.intro hlast hc256)))))
      have HSNK:=Lib.hid (size_key_of hkl2)
      have HR19:=Lib.hid (fun (wx:World) (hx:wx.heap[g19]?=w6.heap[g19]?)=>(HPARTS.out wx hx).2.2.2.1)
      have HR7W:=Lib.hid (HR7Z.out _ HK6Z.out)
      have HR19W:=Lib.hid (HR19.out w6 rfl)
      have hqx:=fun w=>run_equalIn_bytes w 9998 Tryz.underlying60 hkl2 HKL.out
      clear ck hkd hkl2 hvl hcm hlast hc256
      by_cases hkey:nd.key=key
      ·have hb:(nd.key == key)=true:=by simpa using hkey
       rw [hb] at hqx
       have HKEY:=Lib.hid hkey
       clear hb hkey
       have h14:=(HK6Z.out.block g14 HGZ.out.1 (by simp)).trans HB14.out
       have h14':w6.heap[g14]?=some (.cells (pfCells ⟨false,[],List.replicate 32 0,[]⟩ (.slice none 0 0) (.slice none 0 0)).toArray 57 (0,0)):=by rw [h14,HZB.out];rfl
       have c14:=(pf_cells h14' (by simp)).1
       have f14:=frozen_of_row w6 g14 0 _ _ h14'
       have H14:=Lib.hid h14'
       clear h14 h14'
       go_upto_region 19 with (first | (refine wpList_load_mid rfl 60 (.tmp 67) rfl g19 69 (by rfl) (nd.key.map B) _ HR19W.out Tryz.underlying60 rfl HSNK.out ?_;try simp only [zA,zB,zC,zD,zE,zF,zG,zH]) | (refine wpList_load_mid rfl 60 (.tmp 7) rfl q7 0 (by rfl) (key.map B) _ HR7W.out Tryz.underlying60 rfl HSK.out ?_;try simp only [zA,zB,zC,zD,zE,zF,zG,zH]))
       clear hqx
       obtain ⟨w7,hw7⟩:∃ x,x=w6.setCell ⟨g14,0,none⟩ (.bool true):=⟨_,rfl⟩
       rw [← hw7]
       have h147:w7.heap[g14]?=some (.cells (pfCells ⟨true,nd.val,List.replicate 32 0,[]⟩ (.slice none 0 0) (.slice none 0 0)).toArray 57 (0,0)):=by
        have h:=heap_setCell_same w6 g14 0 _ _ (.bool true) H14.out
        rw [hw7]
        exact h
       have k67:Keeps [g14] w6 w7:=by rw [hw7];exact (Keeps.refl _ _).setCell (.inl (by simp)) _
       have hn14:g14≠g19:=by have:=HG19.out;have:=HGZ.out.1;omega
       have h197:=k67.block g19 HB19.out (by simp;omega)
       have c19:w7.cell? ⟨g19,101,none⟩=some nv:=(HPARTS.out w7 h197).1.2.2.2.2.2
       have hno7:OwnB w7 nv nd.val:=ownsRow_keep HNO.out (fun j hj=>k67.block j (World.ownsRow.lt HNO.out j hj).2 (fun e=>by
        simp at e
        subst e
        obtain ⟨c1,h1⟩:=own_type HNO.out hj
        rw [H14.out] at h1
        injection h1 with h1
        injection h1 with _ h3 _
        exact proof_not_bytes h3))
       have hby:=refBytes_any (ownB_bytes hno7) (show nd.val.length≤2097152 by have:=HKD.out.2.2.1;omega)
       have HBY:=Lib.hid hby
       have H147:=Lib.hid h147
       have HK7:=Lib.hid k67
       clear hw7 h147 k67 h197 hno7 hby c14 f14
       rw [HNV.out] at c19
       have HBY2:=HBY
       rw [HNV.out] at HBY2
       go_wp2_with (first | (go_at_call 32;refine HBY2.out.mono ?_;rintro e w8 ⟨vb,rfl,hob,hfb,hk8⟩;have hc1:=(pf_cells ((hk8.block g14 (lt_of_heap H147.out) (by simp)).trans H147.out) (by simp)).2.1;have hf1:=frozen_of_row w8 g14 1 _ _ ((hk8.block g14 (lt_of_heap H147.out) (by simp)).trans H147.out);have HOB:=Lib.hid hob;have HFB:=Lib.hid hfb;have HK8:=Lib.hid hk8;obtain ⟨av,cv,rfl⟩:=ownB_slice hob;clear hob hfb hk8))
       go_meet
       case rel =>
        have h148:=(HK8.out.block g14 (lt_of_heap H147.out) (by simp)).trans H147.out
        have k8:Keeps [g14] w8 (w8.setCell ⟨g14,1,none⟩ (.slice av nd.val.length cv)):=(Keeps.refl _ _).setCell (.inl (by simp)) _
        have z6:=HK6Z.out.size
        have z7:=HK7.out.size
        have zz:=HGZ.out
        have k68:Keeps [g14] w6 (w8.setCell ⟨g14,1,none⟩ (.slice av nd.val.length cv)):=(HK7.out.trans (G:=[]) HK8.out (by simp)).setCell (.inl (by simp)) _
        refine ⟨⟨i,true,nd.val,-1,z32⟩,.slice av nd.val.length cv,?_,?_,rfl,?_,?_,?_,rfl,?_,?_,⟨by show (-1:Int)≤-1;decide,by show (-1:Int) < 256;decide⟩,?_⟩
        ·refine ownsRow_keep HOWN.out (fun j hj=>(k68.block j (by have:=(World.ownsRow.lt HOWN.out j hj).2;have:=HK6.out.size;omega) (by have:=(World.ownsRow.lt HOWN.out j hj).1;simp;omega)).trans (HK6.out.block j (World.ownsRow.lt HOWN.out j hj).2 (by simp)))
        ·exact .inr ⟨nd,HNS.out,HKD.out.1,HKD.out.2.1,HKD.out.2.2.2.2.1,.inl ⟨HKEY.out,rfl,rfl,rfl⟩⟩
        ·have h:=heap_setCell_same w8 g14 1 _ _ (.slice av nd.val.length cv) h148
         exact h
        ·exact ownsRow_keep HOB.out (fun j hj=>k8.block j (World.ownsRow.lt HOB.out j hj).2 (by have:=HFB.out j hj;simp;omega))
        ·exact fun j hj=>by have:=HFB.out j hj;omega
        ·exact (HB17.out.keeps HK6Z.out (by simp)).keeps k68 (by simp;omega)
        ·show i≤256
         have:=HKD.out.2.2.2.1
         have:=HKD.out.2.2.2.2.2
         omega
        ·exact ((HK6Z.out.mono (G:=[g14]) (by simp)).trans (G:=[g14]) k68 (fun j hj=>.inl hj)).mono (by simp)
      ·have hb:(nd.key == key)=false:=by simpa using hkey
       rw [hb] at hqx
       have HKEY:=Lib.hid hkey
       obtain ⟨CM,hCM⟩:∃ x,x=commonK nd.key key:=⟨_,rfl⟩
       have hc255:CM≤255:=by
        have h1:=HKD.out.2.2.2.2.2
        have h2:commonK nd.key key≠256:=fun e=>hkey ((commonK_eq HKD.out.2.1 HKL.out).1 e)
        omega
       obtain ⟨la,hla⟩:∃ x,x=255 - CM:=⟨_,rfl⟩
       have ela:255 - (CM:Int)=(la:Int):=by omega
       have hcom:=fun (wx:World)=>r3Common_any (w:=wx) HKD.out.2.1 HKL.out
       rw [← hCM] at hcom
       obtain ⟨LD,hLD⟩:∃ x,x=leafD k nd.key nd.val:=⟨_,rfl⟩
       have hLDl:LD.length=32:=by rw [hLD];exact leafD_length HKN.out.2
       obtain ⟨LS,hLS⟩:∃ x,x=climbD k nd.key 0 LD la:=⟨_,rfl⟩
       have hLSl:LS.length=32:=by rw [hLS];exact climbD_length hLDl HKN.out.2
       have HCOM:=Lib.hid hcom
       have HLA:=Lib.hid (And.intro hCM hla)
       have HLD:=Lib.hid (And.intro hLD hLDl)
       have HLS:=Lib.hid (And.intro hLS hLSl)
       have hla256:la≤256:=by omega
       have hi256:i≤256:=by have:=HKD.out.2.2.2.1;have:=HKD.out.2.2.2.2.2;omega
       have HSLD:=Lib.hid (dg_size_of hLDl)
       clear hb hkey hCM hla hcom hLD hLDl hLS hLSl
       go_upto_region 21 with (first | (refine wpList_load_mid rfl 60 (.tmp 67) rfl g19 69 (by rfl) (nd.key.map B) _ HR19W.out Tryz.underlying60 rfl HSNK.out ?_;try simp only [zA,zB,zC,zD,zE,zF,zG,zH]) | (refine wpList_load_mid rfl 60 (.tmp 76) rfl g19 69 (by rfl) (nd.key.map B) _ HR19W.out Tryz.underlying60 rfl HSNK.out ?_;try simp only [zA,zB,zC,zD,zE,zF,zG,zH]) | (refine wpList_load_mid rfl 60 (.tmp 7) rfl q7 0 (by rfl) (key.map B) _ HR7W.out Tryz.underlying60 rfl HSK.out ?_;try simp only [zA,zB,zC,zD,zE,zF,zG,zH]) | (go_at_call 33;refine (HCOM.out _).mono ?_;rintro e w7 ⟨rfl,hk7⟩))
       clear hqx
       have b197:=hk7.block g19 HB19.out (by simp)
       have c19:w7.cell? ⟨g19,101,none⟩=some nv:=(HPARTS.out w7 b197).1.2.2.2.2.2
       have hno7:OwnB w7 nv nd.val:=ownsRow_keep HNO.out (fun j hj=>hk7.block j (World.ownsRow.lt HNO.out j hj).2 (by simp))
       have hlf:=r9Leaf_any HKD.out.2.1 (ownB_bytes hno7) (by have:=HKD.out.2.2.1;omega) n k (by have:=HKN.out.1;omega) (HTZ.out _ (HK6Z.out.trans (G:=[]) hk7 (by simp)))
       rw [← HLD.out.1] at hlf
       rw [HNV.out] at hlf c19
       have HLF:=Lib.hid hlf
       have HR197:=Lib.hid (HR19.out w7 b197)
       have HK7:=Lib.hid (HK6Z.out.trans (G:=[]) hk7 (by simp))
       have HB197:=Lib.hid b197
       have HB19L:=Lib.hid (show g19 < w7.heap.size from Nat.lt_of_lt_of_le HB19.out hk7.size)
       have HK67:=Lib.hid hk7
       clear b197 hno7 hlf hk7
       go_upto_region 23 with (first | (refine wpList_load_mid rfl 60 (.tmp 83) rfl g19 69 (by rfl) (nd.key.map B) _ HR197.out Tryz.underlying60 rfl HSNK.out ?_;try simp only [zA,zB,zC,zD,zE,zF,zG,zH]) | (go_at_call 34;refine HLF.out.mono ?_;rintro e w8 ⟨rfl,hk8⟩) | (refine wl_alloc rfl 88 rfl ?_;refine ⟨_,_,run_alloc _ HZDI.out,?_⟩;(try simp only [Value.cells]);try simp only [zA,zB,zC,zD,zE,zF,zG,zH]) | (refine wl_store rfl 88 (.tmp 21) (.tmp 87) rfl ?_;refine ⟨_,run_store_dig (heap_new_at rfl) HZD.out HLD.out.2,?_⟩;try simp only [zA,zB,zC,zD,zE,zF,zG,zH]))
       obtain ⟨g21,hg21⟩:∃ x,x=w8.heap.size:=⟨_,rfl⟩
       obtain ⟨w9,hw9⟩:∃ x,x=(w8.alloc (.cells (Zd.map B).toArray 88 (0,0))).setCells w8.heap.size 0 (LD.map B):=⟨_,rfl⟩
       have b21:Blk w9 g21 88 LD:=by rw [hw9,hg21];exact dig_store (heap_new_at rfl) (by rw [HZD.out,HLD.out.2])
       have k89:Keeps [] w8 w9:=by rw [hw9];exact ((Keeps.refl _ _).alloc _).setCells (.inr (Nat.le_refl _)) _ _
       rw [← hw9,← hg21]
       have k79:Keeps [] w7 w9:=hk8.trans (G:=[]) k89 (by simp)
       have k9:Keeps [] wz w9:=HK7.out.trans (G:=[]) k79 (by simp)
       have b199:=(k79.block g19 HB19L.out (by simp)).trans HB197.out
       have hcl:=r9ClimbWith_any (ce:=ce) HKD.out.2.1 HLD.out.2 n k HKN.out.1 (HTZ.out _ k9) la hla256 (HESZ.out _ k9).2 (HESZ.out _ k9).1
       rw [← HLS.out.1] at hcl
       have HCL:=Lib.hid hcl
       have HR199:=Lib.hid (HR19.out w9 b199)
       have HR21:=Lib.hid (rangeAt_all b21)
       have HK9:=Lib.hid k9
       have HK69:=Lib.hid (HK67.out.trans (G:=[]) k79 (by simp))
       have HB179:=Lib.hid (HB17.out.keeps k9 (by simp))
       clear hg21 hw9 b21 k89 hk8 k79 k9 b199 hcl c19
       go_wp2_with (first | (refine wpList_load_mid rfl 60 (.tmp 90) rfl g19 69 (by rfl) (nd.key.map B) _ HR199.out Tryz.underlying60 rfl HSNK.out ?_;try simp only [zA,zB,zC,zD,zE,zF,zG,zH]) | (refine wpList_load_mid rfl 88 (.tmp 21) rfl g21 0 (by rfl) (LD.map B) _ HR21.out Tryz.underlying88 rfl HSLD.out ?_;try simp only [zA,zB,zC,zD,zE,zF,zG,zH]) | (go_at_call 35;refine HCL.out.mono ?_;rintro e w10 ⟨rfl,hk10⟩) | (refine wl_store rfl 88 (.tmp 17) (.tmp 94) rfl ?_;refine ⟨_,run_store_dig (HB179.out.keeps hk10 (by simp)) rfl HLS.out.2,?_⟩;try simp only [zA,zB,zC,zD,zE,zF,zG,zH]))
       go_meet
       case rel =>
        have k6f:Keeps [g17] w6 (w10.setCells g17 0 (LS.map B)):=((HK69.out.trans (G:=[]) hk10 (by simp)).mono (by simp)).setCells (.inl (by simp)) _ _
        have kzf:Keeps [g17] wz (w10.setCells g17 0 (LS.map B)):=((HK9.out.trans (G:=[]) hk10 (by simp)).mono (by simp)).setCells (.inl (by simp)) _ _
        have zz:=HGZ.out
        refine ⟨⟨i,false,[],la,LS⟩,.slice none 0 0,?_,?_,rfl,?_,World.ownsRow_nil _ _ _ _,fun j hj=>by simp [Value.ownBlock] at hj,HLS.out.2,?_,hi256,⟨by show (-1:Int)≤(la:Int);omega,by show (la:Int) < 256;omega⟩,kzf.mono (by simp)⟩
        ·refine ownsRow_keep HOWN.out (fun j hj=>(k6f.block j (by have:=(World.ownsRow.lt HOWN.out j hj).2;have:=HK6.out.size;omega) (by have:=(World.ownsRow.lt HOWN.out j hj).1;simp;omega)).trans (HK6.out.block j (World.ownsRow.lt HOWN.out j hj).2 (by simp)))
        ·exact .inr ⟨nd,HNS.out,HKD.out.1,HKD.out.2.1,HKD.out.2.2.2.2.1,.inr ⟨HKEY.out,rfl,rfl,by show ((la:Nat):Int)=_;rw [HLA.out.2,HLA.out.1],by show LS=_;rw [HLS.out.1,HLD.out.1,HLA.out.2,HLA.out.1]⟩⟩
        ·have h:=(kzf.block g14 zz.1 (by simp;omega)).trans HB14.out
         rw [h,HZB.out]
         rfl
        ·exact dig_store (x:=LS) (HB179.out.keeps hk10 (by simp)) (by rw [HLS.out.2];rfl)
     ·have ck':w6.cell? ⟨g19,0,none⟩=some (.int .i64 2):=by
       rcases HPOK.out i nd HNS.out with ⟨lk,lv,rfl,_⟩ | ⟨lp,lc,ls,rp,rc,rs,rfl,_⟩
       ·exact absurd rfl hkd
       ·exact ck
      have hi256:i < 256:=by
       rcases HPOK.out i nd HNS.out with ⟨lk,lv,rfl,_⟩ | ⟨lp,lc,ls,rp,rc,rs,rfl,_,_,_,h⟩
       ·exact absurd rfl hkd
       ·omega
      obtain ⟨h,hh⟩:∃ h,h=255 - i:=⟨_,rfl⟩
      have eh:255 - (i:Int)=(h:Int):=by omega
      have h0:(0:Int)≤(h:Int):=by omega
      have h1:(h:Int) < 257:=by omega
      obtain ⟨bt,hbt⟩:∃ b,b=bitK key i:=⟨_,rfl⟩
      have hbit:=fun (wx:World)=>r3Bit_any (w:=wx) HKL.out i hi256
      rw [← hbt] at hbit
      have hb2:bt < 2:=by rw [hbt];exact bitK_lt _ _
      obtain ⟨E,hE⟩:∃ E,E=emptyD k h:=⟨_,rfl⟩
      have hEl:E.length=32:=by rw [hE];exact emptyD_length HKN.out.2 h
      have hDat:besAt nd key k i=if dOther nd bt=0 then E else dSum nd bt:=by unfold besAt;rw [hE,hh,hbt]
      have HKD:=Lib.hid hkd
      have HBIT:=Lib.hid hbit
      have HDAT:=Lib.hid hDat
      have HE:=Lib.hid (And.intro hE hEl)
      have HBT:=Lib.hid hbt
      have HI:=Lib.hid hh
      have HRE:=Lib.hid (fun (wx:World) (hx:Keeps [] wz wx)=>sum_range (x:=E) (HESZ.out wx hx).2 (emptiesL_32 HKN.out.2 257) (k:=h) (by rw [hE];unfold emptiesL;rw [List.getElem?_map,List.getElem?_range (by omega)];rfl))
      have HSE:=Lib.hid (dg_size_of hEl)
      have HSL:=Lib.hid (And.intro (dg_size_of HOK.out.1) (dg_size_of HOK.out.2.1))
      have HR7W:=Lib.hid (HR7Z.out _ HK6Z.out)
      clear ck hkd hbit hDat hE hEl hh hbt
      go_upto_region 26 with (first | (refine wpList_load_mid rfl 60 (.tmp 7) rfl q7 0 (by rfl) (key.map B) _ HR7W.out Tryz.underlying60 rfl HSK.out ?_;try simp only [zA,zB,zC,zD,zE,zF,zG,zH]) | (go_at_call 36;refine (HBIT.out _).mono ?_;rintro e w7 ⟨rfl,hk7⟩))
      have b197:=hk7.block g19 HB19.out (by simp)
      have hpt:=HPARTS.out w7 b197
      have c2:w7.cell? ⟨g19,2,none⟩=some (.int .i64 nd.right):=hpt.1.2.2.1
      have HRR:=Lib.hid hpt.2.2.1
      have HK7:=Lib.hid (HK6Z.out.trans (G:=[]) hk7 (by simp))
      have HK67:=Lib.hid hk7
      have HB197:=Lib.hid b197
      have HB19L:=Lib.hid (show g19 < w7.heap.size from Nat.lt_of_lt_of_le HB19.out hk7.size)
      clear b197 hpt hk7 ck'
      go_upto_region 28 with (first | (refine wpList_load_mid rfl 88 (.tmp 102) rfl g19 37 (by rfl) (nd.rs.map B) _ HRR.out Tryz.underlying88 rfl HSL.out.2 ?_;try simp only [zA,zB,zC,zD,zE,zF,zG,zH]) | (refine wl_alloc rfl 88 rfl ?_;refine ⟨_,_,run_alloc _ HZDI.out,?_⟩;(try simp only [Value.cells]);try simp only [zA,zB,zC,zD,zE,zF,zG,zH]) | (refine wl_store rfl 88 (.tmp 25) (.tmp 103) rfl ?_;refine ⟨_,run_store_dig (heap_new_at rfl) HZD.out HOK.out.2.1,?_⟩;try simp only [zA,zB,zC,zD,zE,zF,zG,zH]))
      obtain ⟨g25,hg25⟩:∃ x,x=w7.heap.size:=⟨_,rfl⟩
      obtain ⟨w8,hw8⟩:∃ x,x=(w7.alloc (.cells (Zd.map B).toArray 88 (0,0))).setCells w7.heap.size 0 (nd.rs.map B):=⟨_,rfl⟩
      have b25:Blk w8 g25 88 nd.rs:=by rw [hw8,hg25];exact dig_store (heap_new_at rfl) (by rw [HZD.out,HOK.out.2.1])
      have k78:Keeps [] w7 w8:=by rw [hw8];exact ((Keeps.refl _ _).alloc _).setCells (.inr (Nat.le_refl _)) _ _
      rw [← hw8,← hg25]
      have b198:=(k78.block g19 HB19L.out (by simp)).trans HB197.out
      have hpt:=HPARTS.out w8 b198
      have c1:w8.cell? ⟨g19,1,none⟩=some (.int .i64 nd.left):=hpt.1.2.1
      have HRL:=Lib.hid hpt.2.1
      have HB25:=Lib.hid b25
      have HK8:=Lib.hid (HK7.out.trans (G:=[]) k78 (by simp))
      have HK68:=Lib.hid (HK67.out.trans (G:=[]) k78 (by simp))
      have HG25:=Lib.hid (show w7.heap.size≤g25∧g25 < w8.heap.size by have:=lt_of_heap b25;omega)
      clear hg25 hw8 b25 k78 b198 hpt c2
      by_cases hz:bt=1
      ·have hz1:(bt:Int)=1:=by omega
       have hD2:besAt nd key k i=if nd.left=0 then E else nd.ls:=by rw [HDAT.out];unfold dOther dSum;rw [if_pos hz,if_pos hz]
       have HD2:=Lib.hid hD2
       clear hz hD2
       go_upto_region 31 with (first | (refine wpList_load_mid rfl 88 (.tmp 108) rfl g19 5 (by rfl) (nd.ls.map B) _ HRL.out Tryz.underlying88 rfl HSL.out.1 ?_;try simp only [zA,zB,zC,zD,zE,zF,zG,zH]) | (refine wl_store rfl 88 (.tmp 25) (.tmp 109) rfl ?_;refine ⟨_,run_store_dig HB25.out HOK.out.2.1 HOK.out.1,?_⟩;try simp only [zA,zB,zC,zD,zE,zF,zG,zH]))
       obtain ⟨w9,hw9⟩:∃ x,x=w8.setCells g25 0 (nd.ls.map B):=⟨_,rfl⟩
       have b25:Blk w9 g25 88 nd.ls:=by rw [hw9];exact dig_store (x:=nd.ls) HB25.out (by rw [HOK.out.2.1,HOK.out.1])
       have k89:Keeps [g25] w8 w9:=by rw [hw9];exact (Keeps.refl _ _).setCells (.inl (by simp)) _ _
       rw [← hw9]
       have HB259:=Lib.hid b25
       have HK89:=Lib.hid k89
       clear hw9 b25 k89 c1
       by_cases hp0:nd.left=0
       ·have HD:=Lib.hid (show besAt nd key k i=E by rw [HD2.out,if_pos hp0])
        have HREW:=Lib.hid (HRE.out w9 (HK8.out.trans (G:=[g25]) HK89.out (fun j hj=>.inr (by simp at hj;have:=HK7.out.size;have:=HG25.out;omega))))
        rw [Nat.zero_add] at HREW
        go_upto_region 33 with (first | (refine wpList_load_mid rfl 88 (.tmp 114) rfl ge (h * 32) (by rfl) (E.map B) _ HREW.out Tryz.underlying88 rfl HSE.out ?_;try simp only [zA,zB,zC,zD,zE,zF,zG,zH]) | (refine wl_store rfl 88 (.tmp 25) (.tmp 115) rfl ?_;refine ⟨_,run_store_dig HB259.out HOK.out.1 HE.out.2,?_⟩;try simp only [zA,zB,zC,zD,zE,zF,zG,zH]))
        obtain ⟨wx,hwx⟩:∃ x,x=w9.setCells g25 0 (E.map B):=⟨_,rfl⟩
        have b25:Blk wx g25 88 E:=by rw [hwx];exact dig_store (x:=E) HB259.out (by rw [HOK.out.1,HE.out.2])
        have kx:Keeps [g25] w8 wx:=by rw [hwx];exact HK89.out.setCells (.inl (by simp)) _ _
        rw [← hwx]
        have HDL:=Lib.hid HE.out.2
        have k6x:Keeps [g25] w6 wx:=(HK68.out.mono (by simp)).trans (G:=[g25]) kx (fun j hj=>.inl hj)
        have kzx:Keeps [] wz wx:=HK8.out.trans (G:=[g25]) kx (fun j hj=>.inr (by simp at hj;have:=HK7.out.size;have:=HG25.out;omega))
        have hox:wx.ownsRow wz.heap.size 88 32 (.slice ba i bc) i (sumCells (besL ns key k i)):=ownsRow_keep HOWN.out (fun j hj=>(k6x.block j (by have:=(World.ownsRow.lt HOWN.out j hj).2;have:=HK6.out.size;omega) (by have:=(World.ownsRow.lt HOWN.out j hj).2;have:=HK6.out.size;have:=HK67.out.size;have:=HG25.out;simp;omega)).trans (HK6.out.block j (World.ownsRow.lt HOWN.out j hj).2 (by simp)))
        have hbx:wz.heap.size≤wx.heap.size:=kzx.size
        have hon:i+1≤1073741824:=by omega
        have HR25:=Lib.hid (rangeAt_all b25)
        have HSX:=Lib.hid (dg_size_of HDL.out)
        have HOX:=Lib.hid hox
        have HKZX:=Lib.hid kzx
        clear hwx b25 kx k6x kzx hox hp0
        go_wp2_with (first | (refine wpList_load_mid rfl 88 (.tmp 25) rfl g25 0 (by rfl) (E.map B) _ HR25.out Tryz.underlying88 rfl HSX.out ?_;try simp only [zA,zB,zC,zD,zE,zF,zG,zH]) | (refine wl_buildSlice rfl 55 1 #[(0,.tmp 117)] #[(0,.agg (E.map B).toArray)] rfl (by simp [Act.eval]) ?_;refine ⟨_,_,run_buildSlice_one _ Tryz.underlying55 info_digest (cs:=(E.map B).toArray) (by simpa using HDL.out) (by omega) (by omega),?_⟩;try simp only [zA,zB,zC,zD,zE,zF,zG,zH]) | (refine wl_appD (w0:=wx) rfl (.tmp 116) (.tmp 118) rfl wz.heap.size (.slice ba i bc) i (besL ns key k i) (by rfl) HOX.out E HDL.out (by rfl) (by rfl) hon hbx ?_))
        intro vf wf hof hkf _
        obtain ⟨af,cf,rfl⟩:=own_form hof
        have HOF:=Lib.hid hof
        have HKF:=Lib.hid (hkf [] wz HKZX.out (Nat.le_refl _))
        clear hof hkf
        try simp only [zA,zB,zC,zD,zE,zF,zG,zH]
        go_wp2_with fail
        go_roundw
        case rel =>
         refine ⟨i+1,by omega,by go_num,rfl,?_,fun j nd' hj hn=>?_,HKF.out⟩
         ·have hl:=HOF.out
          rw [besL,List.getD_eq_getElem?_getD,HNS.out]
          show wf.ownsRow wz.heap.size 88 32 _ (i+1) (sumCells (besL ns key k i++[besAt nd key k i]))
          rw [HD.out]
          exact hl
         ·by_cases e:j=i
          ·subst e
           rw [HNS.out] at hn
           injection hn with hn
           rw [← hn]
           exact HKD.out
          ·exact HBR.out j nd' (by omega) hn
        case measure=>simp [intOf];omega
       ·have HD:=Lib.hid (show besAt nd key k i=nd.ls by rw [HD2.out,if_neg hp0])
        go_upto_region 33 with fail
        obtain ⟨wx,hwx⟩:∃ x,x=w9:=⟨_,rfl⟩
        have b25:Blk wx g25 88 nd.ls:=by rw [hwx];exact HB259.out
        have kx:Keeps [g25] w8 wx:=by rw [hwx];exact HK89.out
        rw [← hwx]
        have HDL:=Lib.hid HOK.out.1
        have k6x:Keeps [g25] w6 wx:=(HK68.out.mono (by simp)).trans (G:=[g25]) kx (fun j hj=>.inl hj)
        have kzx:Keeps [] wz wx:=HK8.out.trans (G:=[g25]) kx (fun j hj=>.inr (by simp at hj;have:=HK7.out.size;have:=HG25.out;omega))
        have hox:wx.ownsRow wz.heap.size 88 32 (.slice ba i bc) i (sumCells (besL ns key k i)):=ownsRow_keep HOWN.out (fun j hj=>(k6x.block j (by have:=(World.ownsRow.lt HOWN.out j hj).2;have:=HK6.out.size;omega) (by have:=(World.ownsRow.lt HOWN.out j hj).2;have:=HK6.out.size;have:=HK67.out.size;have:=HG25.out;simp;omega)).trans (HK6.out.block j (World.ownsRow.lt HOWN.out j hj).2 (by simp)))
        have hbx:wz.heap.size≤wx.heap.size:=kzx.size
        have hon:i+1≤1073741824:=by omega
        have HR25:=Lib.hid (rangeAt_all b25)
        have HSX:=Lib.hid (dg_size_of HDL.out)
        have HOX:=Lib.hid hox
        have HKZX:=Lib.hid kzx
        clear hwx b25 kx k6x kzx hox hp0
        go_wp2_with (first | (refine wpList_load_mid rfl 88 (.tmp 25) rfl g25 0 (by rfl) (nd.ls.map B) _ HR25.out Tryz.underlying88 rfl HSX.out ?_;try simp only [zA,zB,zC,zD,zE,zF,zG,zH]) | (refine wl_buildSlice rfl 55 1 #[(0,.tmp 117)] #[(0,.agg (nd.ls.map B).toArray)] rfl (by simp [Act.eval]) ?_;refine ⟨_,_,run_buildSlice_one _ Tryz.underlying55 info_digest (cs:=(nd.ls.map B).toArray) (by simpa using HDL.out) (by omega) (by omega),?_⟩;try simp only [zA,zB,zC,zD,zE,zF,zG,zH]) | (refine wl_appD (w0:=wx) rfl (.tmp 116) (.tmp 118) rfl wz.heap.size (.slice ba i bc) i (besL ns key k i) (by rfl) HOX.out nd.ls HDL.out (by rfl) (by rfl) hon hbx ?_))
        intro vf wf hof hkf _
        obtain ⟨af,cf,rfl⟩:=own_form hof
        have HOF:=Lib.hid hof
        have HKF:=Lib.hid (hkf [] wz HKZX.out (Nat.le_refl _))
        clear hof hkf
        try simp only [zA,zB,zC,zD,zE,zF,zG,zH]
        go_wp2_with fail
        go_roundw
        case rel =>
         refine ⟨i+1,by omega,by go_num,rfl,?_,fun j nd' hj hn=>?_,HKF.out⟩
         ·have hl:=HOF.out
          rw [besL,List.getD_eq_getElem?_getD,HNS.out]
          show wf.ownsRow wz.heap.size 88 32 _ (i+1) (sumCells (besL ns key k i++[besAt nd key k i]))
          rw [HD.out]
          exact hl
         ·by_cases e:j=i
          ·subst e
           rw [HNS.out] at hn
           injection hn with hn
           rw [← hn]
           exact HKD.out
          ·exact HBR.out j nd' (by omega) hn
        case measure=>simp [intOf];omega
      ·have hz1:¬ (bt:Int)=1:=by omega
       have hD2:besAt nd key k i=if nd.right=0 then E else nd.rs:=by rw [HDAT.out];unfold dOther dSum;rw [if_neg hz,if_neg hz]
       have HD2:=Lib.hid hD2
       clear hz hD2 c1
       have HK89:=Lib.hid (Keeps.refl [g25] w8)
       by_cases hp0:nd.right=0
       ·have HD:=Lib.hid (show besAt nd key k i=E by rw [HD2.out,if_pos hp0])
        have HREW:=Lib.hid (HRE.out w8 (HK8.out.trans (G:=[g25]) HK89.out (fun j hj=>.inr (by simp at hj;have:=HK7.out.size;have:=HG25.out;omega))))
        rw [Nat.zero_add] at HREW
        go_upto_region 33 with (first | (refine wpList_load_mid rfl 88 (.tmp 114) rfl ge (h * 32) (by rfl) (E.map B) _ HREW.out Tryz.underlying88 rfl HSE.out ?_;try simp only [zA,zB,zC,zD,zE,zF,zG,zH]) | (refine wl_store rfl 88 (.tmp 25) (.tmp 115) rfl ?_;refine ⟨_,run_store_dig HB25.out HOK.out.2.1 HE.out.2,?_⟩;try simp only [zA,zB,zC,zD,zE,zF,zG,zH]))
        obtain ⟨wx,hwx⟩:∃ x,x=w8.setCells g25 0 (E.map B):=⟨_,rfl⟩
        have b25:Blk wx g25 88 E:=by rw [hwx];exact dig_store (x:=E) HB25.out (by rw [HOK.out.2.1,HE.out.2])
        have kx:Keeps [g25] w8 wx:=by rw [hwx];exact HK89.out.setCells (.inl (by simp)) _ _
        rw [← hwx]
        have HDL:=Lib.hid HE.out.2
        have k6x:Keeps [g25] w6 wx:=(HK68.out.mono (by simp)).trans (G:=[g25]) kx (fun j hj=>.inl hj)
        have kzx:Keeps [] wz wx:=HK8.out.trans (G:=[g25]) kx (fun j hj=>.inr (by simp at hj;have:=HK7.out.size;have:=HG25.out;omega))
        have hox:wx.ownsRow wz.heap.size 88 32 (.slice ba i bc) i (sumCells (besL ns key k i)):=ownsRow_keep HOWN.out (fun j hj=>(k6x.block j (by have:=(World.ownsRow.lt HOWN.out j hj).2;have:=HK6.out.size;omega) (by have:=(World.ownsRow.lt HOWN.out j hj).2;have:=HK6.out.size;have:=HK67.out.size;have:=HG25.out;simp;omega)).trans (HK6.out.block j (World.ownsRow.lt HOWN.out j hj).2 (by simp)))
        have hbx:wz.heap.size≤wx.heap.size:=kzx.size
        have hon:i+1≤1073741824:=by omega
        have HR25:=Lib.hid (rangeAt_all b25)
        have HSX:=Lib.hid (dg_size_of HDL.out)
        have HOX:=Lib.hid hox
        have HKZX:=Lib.hid kzx
        clear hwx b25 kx k6x kzx hox hp0
        go_wp2_with (first | (refine wpList_load_mid rfl 88 (.tmp 25) rfl g25 0 (by rfl) (E.map B) _ HR25.out Tryz.underlying88 rfl HSX.out ?_;try simp only [zA,zB,zC,zD,zE,zF,zG,zH]) | (refine wl_buildSlice rfl 55 1 #[(0,.tmp 117)] #[(0,.agg (E.map B).toArray)] rfl (by simp [Act.eval]) ?_;refine ⟨_,_,run_buildSlice_one _ Tryz.underlying55 info_digest (cs:=(E.map B).toArray) (by simpa using HDL.out) (by omega) (by omega),?_⟩;try simp only [zA,zB,zC,zD,zE,zF,zG,zH]) | (refine wl_appD (w0:=wx) rfl (.tmp 116) (.tmp 118) rfl wz.heap.size (.slice ba i bc) i (besL ns key k i) (by rfl) HOX.out E HDL.out (by rfl) (by rfl) hon hbx ?_))
        intro vf wf hof hkf _
        obtain ⟨af,cf,rfl⟩:=own_form hof
        have HOF:=Lib.hid hof
        have HKF:=Lib.hid (hkf [] wz HKZX.out (Nat.le_refl _))
        clear hof hkf
        try simp only [zA,zB,zC,zD,zE,zF,zG,zH]
        go_wp2_with fail
        go_roundw
        case rel =>
         refine ⟨i+1,by omega,by go_num,rfl,?_,fun j nd' hj hn=>?_,HKF.out⟩
         ·have hl:=HOF.out
          rw [besL,List.getD_eq_getElem?_getD,HNS.out]
          show wf.ownsRow wz.heap.size 88 32 _ (i+1) (sumCells (besL ns key k i++[besAt nd key k i]))
          rw [HD.out]
          exact hl
         ·by_cases e:j=i
          ·subst e
           rw [HNS.out] at hn
           injection hn with hn
           rw [← hn]
           exact HKD.out
          ·exact HBR.out j nd' (by omega) hn
        case measure=>simp [intOf];omega
       ·have HD:=Lib.hid (show besAt nd key k i=nd.rs by rw [HD2.out,if_neg hp0])
        go_upto_region 33 with fail
        obtain ⟨wx,hwx⟩:∃ x,x=w8:=⟨_,rfl⟩
        have b25:Blk wx g25 88 nd.rs:=by rw [hwx];exact HB25.out
        have kx:Keeps [g25] w8 wx:=by rw [hwx];exact HK89.out
        rw [← hwx]
        have HDL:=Lib.hid HOK.out.2.1
        have k6x:Keeps [g25] w6 wx:=(HK68.out.mono (by simp)).trans (G:=[g25]) kx (fun j hj=>.inl hj)
        have kzx:Keeps [] wz wx:=HK8.out.trans (G:=[g25]) kx (fun j hj=>.inr (by simp at hj;have:=HK7.out.size;have:=HG25.out;omega))
        have hox:wx.ownsRow wz.heap.size 88 32 (.slice ba i bc) i (sumCells (besL ns key k i)):=ownsRow_keep HOWN.out (fun j hj=>(k6x.block j (by have:=(World.ownsRow.lt HOWN.out j hj).2;have:=HK6.out.size;omega) (by have:=(World.ownsRow.lt HOWN.out j hj).2;have:=HK6.out.size;have:=HK67.out.size;have:=HG25.out;simp;omega)).trans (HK6.out.block j (World.ownsRow.lt HOWN.out j hj).2 (by simp)))
        have hbx:wz.heap.size≤wx.heap.size:=kzx.size
        have hon:i+1≤1073741824:=by omega
        have HR25:=Lib.hid (rangeAt_all b25)
        have HSX:=Lib.hid (dg_size_of HDL.out)
        have HOX:=Lib.hid hox
        have HKZX:=Lib.hid kzx
        clear hwx b25 kx k6x kzx hox hp0
        go_wp2_with (first | (refine wpList_load_mid rfl 88 (.tmp 25) rfl g25 0 (by rfl) (nd.rs.map B) _ HR25.out Tryz.underlying88 rfl HSX.out ?_;try simp only [zA,zB,zC,zD,zE,zF,zG,zH]) | (refine wl_buildSlice rfl 55 1 #[(0,.tmp 117)] #[(0,.agg (nd.rs.map B).toArray)] rfl (by simp [Act.eval]) ?_;refine ⟨_,_,run_buildSlice_one _ Tryz.underlying55 info_digest (cs:=(nd.rs.map B).toArray) (by simpa using HDL.out) (by omega) (by omega),?_⟩;try simp only [zA,zB,zC,zD,zE,zF,zG,zH]) | (refine wl_appD (w0:=wx) rfl (.tmp 116) (.tmp 118) rfl wz.heap.size (.slice ba i bc) i (besL ns key k i) (by rfl) HOX.out nd.rs HDL.out (by rfl) (by rfl) hon hbx ?_))
        intro vf wf hof hkf _
        obtain ⟨af,cf,rfl⟩:=own_form hof
        have HOF:=Lib.hid hof
        have HKF:=Lib.hid (hkf [] wz HKZX.out (Nat.le_refl _))
        clear hof hkf
        try simp only [zA,zB,zC,zD,zE,zF,zG,zH]
        go_wp2_with fail
        go_roundw
        case rel =>
         refine ⟨i+1,by omega,by go_num,rfl,?_,fun j nd' hj hn=>?_,HKF.out⟩
         ·have hl:=HOF.out
          rw [besL,List.getD_eq_getElem?_getD,HNS.out]
          show wf.ownsRow wz.heap.size 88 32 _ (i+1) (sumCells (besL ns key k i++[besAt nd key k i]))
          rw [HD.out]
          exact hl
         ·by_cases e:j=i
          ·subst e
           rw [HNS.out] at hn
           injection hn with hn
           rw [← hn]
           exact HKD.out
          ·exact HBR.out j nd' (by omega) hn
        case measure=>simp [intOf];omega
    ·obtain rfl:m=i:=by omega
     have i1:¬ (m:Int) < (m:Int):=by omega
     go_wp2_with fail
     go_meet
     case rel =>
      have hm256:m≤256:=by
       by_cases hz:m=0
       ·omega
       ·obtain ⟨nd,hnd⟩:∃ nd,ns[m - 1]?=some nd:=⟨_,List.getElem?_eq_getElem (by rw [← HPNS.out.2.2];omega)⟩
        rcases HPOK.out (m - 1) nd hnd with ⟨lk,lv,rfl,_⟩ | ⟨lp,lc,ls,rp,rc,rs,_,_,_,_,h⟩
        ·exact absurd rfl (HBR.out (m - 1) _ (by omega) hnd)
        ·omega
      refine ⟨⟨m,false,[],-1,z32⟩,.slice none 0 0,HOWN.out,.inl ⟨HPNS.out.2.2,fun nd hnd=>?_,rfl,rfl,rfl⟩,rfl,?_,World.ownsRow_nil _ _ _ _,fun j hj=>by simp [Value.ownBlock] at hj,rfl,HB17.out.keeps HKR.out (by simp),hm256,⟨by show (-1:Int)≤-1;decide,by show (-1:Int) < 256;decide⟩,HKR.out.mono (by simp)⟩
      ·obtain ⟨j,hj,he⟩:=List.getElem_of_mem hnd
       exact HBR.out j nd (by rw [HPNS.out.2.2];exact hj) (by rw [List.getElem?_eq_getElem hj,he])
      ·have h:=(HKR.out.block g14 HGZ.out.1 (by simp)).trans HB14.out
       rw [h,HZB.out]
       rfl
  case rest =>
   obtain ⟨o,vv,hbes,hend,rfl,h14,hov,hvb,hls,h17,hm256,hla,hkc⟩:=hcut
   obtain ⟨av,cv,rfl⟩:=ownB_slice hov
   obtain ⟨sb,cb,rfl⟩:=own_form hbes
   have hbr:∀ i,i < o.m→∃ nd,ns[i]?=some nd∧nd.ls.length=32∧nd.rs.length=32:=fun i hi=>by
    have hlen:o.m≤ns.length:=by
     rcases hend with ⟨h,_⟩ | ⟨nd,h,_,_,h2,_⟩ <;> omega
    obtain ⟨nd,hnd⟩:∃ nd,ns[i]?=some nd:=⟨_,List.getElem?_eq_getElem (by omega)⟩
    refine ⟨nd,hnd,?_⟩
    rcases HPOK.out i nd hnd with ⟨lk,lv,rfl,_,_,_,h5⟩ | ⟨lp,lc,ls,rp,rc,rs,rfl,_,h1,h2,_⟩
    ·rcases hend with ⟨h,h6,_⟩ | ⟨nd,h,_,_,h2,_⟩
     ·exact absurd rfl (h6 _ (List.mem_of_getElem? hnd))
     ·omega
    ·exact ⟨h1,h2⟩
   have hbat:∀ i,i < o.m→(besAt (ns.getD i nd0) key k i).length=32:=fun i hi=>by
    obtain ⟨nd,hnd,h1,h2⟩:=hbr i hi
    rw [List.getD_eq_getElem?_getD,hnd]
    unfold besAt
    split
    ·exact emptyD_length HKN.out.2 _
    ·show (dSum nd _).length=32
     unfold dSum
     split <;> assumption
   have hb32:∀ s∈besL ns key k o.m,s.length=32:=fun s hs=>by
    obtain ⟨i,hi,he⟩:=List.getElem_of_mem hs
    rw [besL_length] at hi
    have h:=besL_get ns key k o.m i hi
    rw [List.getElem?_eq_getElem (by rw [besL_length];exact hi),he] at h
    injection h with h
    rw [h]
    exact hbat i hi
   obtain ⟨T,hT⟩:∃ T,T=overT ns key k o:=⟨_,rfl⟩
   obtain ⟨EE,hEE⟩:∃ EE,EE=emptiesL k 256:=⟨_,rfl⟩
   have HEE:=Lib.hid hEE
   have HEN:=Lib.hid (show ∀ j,j < 256→EE.getD j []=emptyD k j from fun j hj=>by rw [hEE];exact emptiesL_getD k hj)
   clear hEE
   have hz0:w.heap.size≤wz.heap.size:=HKWZ.out.size
   have HBES:=Lib.hid hbes
   have HB32:=Lib.hid (And.intro hb32 hbat)
   have HEND:=Lib.hid hend
   have H14:=Lib.hid h14
   have HOV:=Lib.hid hov
   have HVB:=Lib.hid hvb
   have HLS:=Lib.hid hls
   have HSLS:=Lib.hid (dg_size_of hls)
   have H17:=Lib.hid h17
   have HKC:=Lib.hid hkc
   have HTT:=Lib.hid hT
   have HLA:=Lib.hid hla
   have HCZ:=Lib.hid (show wz.heap.size≤wc.heap.size∧g14 < wc.heap.size∧g17 < wc.heap.size by have:=hkc.size;have:=HGZ.out;omega)
   have HESC:=Lib.hid (show ge < wc.heap.size∧ge≠g14∧wc.rangeAt ge 0 (sumCells (emptiesL k 257)) by
    have h1:=HESZ.out wz (Keeps.refl _ _)
    have h2:ge≠g14∧ge≠g17:=by
     have h3:=HES4.out.1
     have h5:w4.heap.size≤g14:=by have:=HGW.out;omega
     have h6:=HGZ.out
     omega
    exact ⟨Nat.lt_of_lt_of_le h1.1 hkc.size,h2.1,rangeAt_of_heap h1.2 (hkc.block ge h1.1 (by simp;exact h2))⟩)
   have H8C:=Lib.hid (show wc.heap[q8]?=some (.cells Z.toArray 57 (0,0))∧q8≠g14∧q8 < wc.heap.size by
    have h1:q8 < w1.heap.size:=lt_of_heap HB8.out
    have h2:=K4.out.size
    have h3:w4.heap.size≤g14:=by have:=HGW.out;omega
    have h6:=HGZ.out
    have k1z:=K4.out.trans (G:=[]) HK4Z.out (by simp)
    have h7:=k1z.size
    refine ⟨(hkc.block q8 (by omega) (by simp;omega)).trans ((k1z.block q8 h1 (by simp)).trans HB8.out),by omega,by have:=hkc.size;omega⟩)
   clear hbes hend h14 hov hvb hls h17 hkc hbr hbat hb32 hT hla
   go_wp2_with fail
   go_loopw [26] (fun iv wr=>∃ (j:Nat) (sv:Value),j≤256∧iv=.int .i64 j∧wr.ownsRow wc.heap.size 88 32 sv (pvOnes T EE j).length (sumCells (pvOnes T EE j))∧wr.heap[g14]?=some (.cells (pfCells ⟨o.found,o.val,pvBits T EE j,[]⟩ (.slice av o.val.length cv) sv).toArray 57 (0,0))∧Keeps [g14] wc wr) (fun iv _=>256 - (intOf iv).toNat)
   case atStart=>exact ⟨0,.slice none 0 0,Nat.zero_le _,rfl,World.ownsRow_nil _ _ _ _,H14.out,Keeps.refl _ _⟩
   case round =>
    obtain ⟨j,sv,hj,rfl,hown,hb,hkr⟩:=hrel
    obtain ⟨PO,hPO⟩:∃ x,x=pvOnes T EE j:=⟨_,rfl⟩
    obtain ⟨PB,hPB⟩:∃ x,x=pvBits T EE j:=⟨_,rfl⟩
    rw [← hPO] at hown
    rw [← hPB] at hb
    obtain ⟨sa,sc,rfl⟩:=own_form hown
    have hon:=pvOnes_len T EE j
    have hlow:=pvBits_lowAt T EE j
    have hbl:=pvBits_length T EE j
    rw [← hPO] at hon
    rw [← hPB] at hlow hbl
    have HPOB:=Lib.hid (And.intro hPO hPB)
    clear hPO hPB
    have j0:(0:Int)≤(j:Int):=by omega
    have HOWN:=Lib.hid hown
    have HB:=Lib.hid hb
    have HKR:=Lib.hid hkr
    have hszc:=hkr.size
    obtain ⟨C,hC⟩:∃ C,C=pfCells ⟨o.found,o.val,PB,[]⟩ (.slice av o.val.length cv) (.slice sa PO.length sc):=⟨_,rfl⟩
    have hCl:C.length=35:=by rw [hC];exact pf_length hbl _ _
    have hC1:∀ v∈C,v.oneCell'=true:=by rw [hC];exact pf_ones
    have hbC:wr.heap[g14]?=some (.cells C.toArray 57 (0,0)):=by rw [hC];exact hb
    have hesr:ge < wr.heap.size∧wr.rangeAt ge 0 (sumCells (emptiesL k 257)):=⟨Nat.lt_of_lt_of_le HESC.out.1 hszc,rangeAt_of_heap HESC.out.2.2 (hkr.block ge HESC.out.1 (by simp;exact HESC.out.2.1))⟩
    have HSC:=Lib.hid (show (Tryz.prog.info? 57).map (·.size)=some C.length by rw [hCl];exact size_proof)
    have HC:=Lib.hid (And.intro hC (And.intro hCl hC1))
    have HBC:=Lib.hid hbC
    have HESR:=Lib.hid hesr
    have HPV:=Lib.hid (And.intro hon (And.intro hlow hbl))
    have HRG:=Lib.hid (rangeAt_all hbC)
    have hne:(Value.slice sa PO.length sc).ownBlock≠some g14:=fun e=>by have:=(World.ownsRow.lt hown g14 e).1;have:=HCZ.out;omega
    have HNE:=Lib.hid hne
    have HSET:=Lib.hid (fun (hj:j < 256) (wx:World) (hx:Keeps [] wr wx) (d:List UInt8) (hd:d.length=32)=>rPSet_C (ce:=ce) hC hbl hesr HKN.out.2 hown hszc (show PO.length≤300 by omega) hlow hx hj hd)
    clear hown hb hkr hon hlow hbl hC hCl hC1 hbC hesr hne
    by_cases hlt:j < 256
    ·have j1:(j:Int) < 256:=by omega
     by_cases hla:(j:Int)=o.la
     ·have hTd:T.getD j []=o.ls:=by rw [HTT.out,overT_getD _ _ _ _ hlt,overAt,if_pos hla]
      have HTD:=Lib.hid hTd
      have hlab:((j:Int) == o.la)=true:=by simpa using hla
      have HR17:=Lib.hid (rangeAt_all (H17.out.keeps HKR.out (by have:=HGZ.out;simp;omega)))
      clear hTd hla
      go_upto_region 38 with fail
      have HSE:=Lib.hid (HSET.out hlt)
      go_wp2_with (first | (refine wpList_load_mid rfl 57 (.tmp 14) rfl g14 0 (by rfl) C _ HRG.out Tryz.underlying57 rfl HSC.out ?_;try simp only [zA,zB,zC,zD,zE,zF,zG,zH]) | (refine wpList_load_mid rfl 88 (.tmp 17) rfl g17 0 (by rfl) (o.ls.map B) _ HR17.out Tryz.underlying88 rfl HSLS.out ?_;try simp only [zA,zB,zC,zD,zE,zF,zG,zH]) | (go_at_call 37;refine (HSE.out _ (Keeps.refl _ _) o.ls HLS.out).mono ?_;rintro e w5 ⟨sv',rfl,ho5,hk5,hb5,hs5⟩;obtain ⟨a5,c5,rfl⟩:=own_form ho5;have HO5:=Lib.hid ho5;have HK5:=Lib.hid hk5;have HB5:=Lib.hid hb5;have HS5:=Lib.hid hs5;clear ho5 hk5 hb5 hs5) | (refine wl_store rfl 57 (.tmp 14) (.tmp 131) rfl ?_;refine ⟨_,run_store_pf ((HB5.out g14 (lt_of_heap HBC.out) HNE.out).trans HBC.out) HC.out.2.1 (pf_length (by unfold setBits;split;exact HPV.out.2.2;rw [List.length_set];exact HPV.out.2.2) _ _) pf_ones,?_⟩;try simp only [zA,zB,zC,zD,zE,zF,zG,zH]))
      go_roundw
      case rel =>
       have eT:setOnes PO o.ls (emptyD k j)=pvOnes T EE (j+1):=by rw [pvOnes_set,HTD.out,HEN.out j hlt,← HPOB.out.1]
       have eB:setBits PB j o.ls (emptyD k j)=pvBits T EE (j+1):=by rw [pvBits_set,HTD.out,HEN.out j hlt,← HPOB.out.2]
       refine ⟨j+1,.slice a5 (setOnes PO o.ls (emptyD k j)).length c5,by omega,by go_num,?_,?_,(HK5.out [g14] wc HKR.out (Nat.le_refl _)).setCells (.inl (by simp)) _ _⟩
       ·rw [← eT]
        exact ownsRow_keep HO5.out (fun i hi=>heap_setCells_other _ _ _ (by have:=(World.ownsRow.lt HO5.out i hi).1;have:=HCZ.out;omega) _ _)
       ·rw [← eB]
        exact store_all ((HB5.out g14 (lt_of_heap HBC.out) HNE.out).trans HBC.out) (by rw [HC.out.2.1];exact (pf_length (by unfold setBits;split;exact HPV.out.2.2;rw [List.length_set];exact HPV.out.2.2) _ _).symm)
      case measure=>simp [intOf];omega
     ·by_cases hm:255 - j < o.m
      ·have hTd:T.getD j []=besAt (ns.getD (255 - j) nd0) key k (255 - j):=by rw [HTT.out,overT_getD _ _ _ _ hlt,overAt,if_neg hla,if_pos hm]
       obtain ⟨pp,hpp⟩:∃ x,x=255 - j:=⟨_,rfl⟩
       rw [← hpp] at hTd hm
       obtain ⟨DD,hDD⟩:∃ x,x=besAt (ns.getD pp nd0) key k pp:=⟨_,rfl⟩
       have hDDl:DD.length=32:=by rw [hDD];exact HB32.out.2 pp hm
       rw [← hDD] at hTd
       obtain ⟨gb,cb2,hbe,hgbl,hgbb,hgbr⟩:=own_range HBES.out (by omega)
       injection hbe with hb1 _ hb3
       subst hb1 hb3
       have hrD:=sum_range (x:=DD) hgbr HB32.out.1 (k:=pp) (by rw [hDD];exact besL_get ns key k o.m pp hm)
       rw [Nat.zero_add] at hrD
       have hgb14:gb≠g14:=by have:=HGZ.out;omega
       have hrDr:=rangeAt_of_heap hrD (HKR.out.block gb hgbl (by simp;exact hgb14))
       have ep:255 - (j:Int)=(pp:Int):=by omega
       have ep2:IntKind.i64.wrap (pp:Int)=(pp:Int):=IntWalk.i64_in _ (by omega)
       have p0:(0:Int)≤(pp:Int):=by omega
       have p1:(pp:Int) < (o.m:Int):=by omega
       have hlan:((j:Int) == o.la)=false:=by simpa using hla
       have HTD:=Lib.hid hTd
       have HRD:=Lib.hid hrDr
       have HDL:=Lib.hid hDDl
       have HSDD:=Lib.hid (dg_size_of hDDl)
       have HSE:=Lib.hid (HSET.out hlt)
       have HNG:=Lib.hid (And.intro hgb14 (Nat.lt_of_lt_of_le hgbl HKR.out.size))
       clear hTd hpp hDD hDDl hgbl hgbb hgbr hrD hgb14 hrDr hla hm
       go_upto_region 40 with fail
       refine rl_start (fun w'=>w'.rangeAt g14 0 C∧w'.rangeAt gb (pp * 32) (DD.map B)) 9 (by kernel_rfl) ?_ (fun hHeld=>?_)
       ·exact ⟨HRG.out,HRD.out⟩
       refine rkb 0 rfl (yieldsIf_load_mid (by rfl) 57 (.tmp 14) rfl g14 0 rfl C _ (fun _ h=>h.1) Tryz.underlying57 rfl HSC.out) ?_
       refine rk 1 ?_
       refine rk 2 ?_
       refine rk 3 ?_
       refine rk 4 ?_
       refine rk 5 ?_
       refine rk 6 ?_
       refine rkb 7 rfl (yieldsIf_load_mid (by rfl) 88 (.tmp 143) rfl gb (pp * 32) rfl (DD.map B) _ (fun _ h=>h.2) Tryz.underlying88 rfl HSDD.out) ?_
       refine rl_act (i:=8) (by kernel_rfl) rfl (fun K hK=>?_)
       go_simp
       refine (HSE.out _ (Keeps.refl [] wr).drew DD HDL.out).mono ?_
       rintro e w5 ⟨sv',rfl,ho5,hk5,hb5,hs5⟩
       obtain ⟨a5,c5,rfl⟩:=own_form ho5
       have HO5:=Lib.hid ho5
       have HK5:=Lib.hid hk5
       have HB5:=Lib.hid hb5
       have HBES5:=Lib.hid (show w5.heap[gb]?=wr.heap[gb]? from hb5 gb HNG.out.2 (fun e=>by have:=(World.ownsRow.lt HOWN.out gb e).1;have:=(World.ownsRow.lt HBES.out gb rfl).2;omega))
       clear ho5 hk5 hb5 hs5
       refine hK.out _ _ ?_ (fun hHeld=>?_)
       ·exact ⟨rangeAt_of_heap HRG.out (HB5.out g14 (lt_of_heap HBC.out) HNE.out),rangeAt_of_heap HRD.out HBES5.out⟩
       clear hK K
       try simp only [zA,zB,zC,zD,zE,zF,zG,zH]
       refine rl_last (by kernel_rfl) (by kernel_rfl) rfl (fun K hK=>?_)
       (refine st_store rfl 57 (.tmp 14) (.tmp 145) rfl ?_;refine ⟨_,run_store_pf ((HB5.out g14 (lt_of_heap HBC.out) HNE.out).trans HBC.out) HC.out.2.1 (pf_length (by unfold setBits;split;exact HPV.out.2.2;rw [List.length_set];exact HPV.out.2.2) _ _) pf_ones,?_⟩;try simp only [zA,zB,zC,zD,zE,zF,zG,zH])
       refine hK.out _ _ ?_
       clear hK K
       try simp only [zA,zB,zC,zD,zE,zF,zG,zH]
       clear hHeld
       go_wp2_with fail
       go_roundw
       case rel =>
        have eT:setOnes PO DD (emptyD k j)=pvOnes T EE (j+1):=by rw [pvOnes_set,HTD.out,HEN.out j hlt,← HPOB.out.1]
        have eB:setBits PB j DD (emptyD k j)=pvBits T EE (j+1):=by rw [pvBits_set,HTD.out,HEN.out j hlt,← HPOB.out.2]
        refine ⟨j+1,.slice a5 (setOnes PO DD (emptyD k j)).length c5,by omega,by go_num,?_,?_,(HK5.out [g14] wc HKR.out.drew (Nat.le_refl _)).setCells (.inl (by simp)) _ _⟩
        ·rw [← eT]
         exact ownsRow_keep HO5.out (fun i hi=>heap_setCells_other _ _ _ (by have:=(World.ownsRow.lt HO5.out i hi).1;have:=HCZ.out;omega) _ _)
        ·rw [← eB]
         exact store_all ((HB5.out g14 (lt_of_heap HBC.out) HNE.out).trans HBC.out) (by rw [HC.out.2.1];exact (pf_length (by unfold setBits;split;exact HPV.out.2.2;rw [List.length_set];exact HPV.out.2.2) _ _).symm)
       case measure=>simp [intOf];omega
      ·have hTd:T.getD j []=emptyD k j:=by rw [HTT.out,overT_getD _ _ _ _ hlt,overAt,if_neg hla,if_neg hm]
       have hmi:¬ 255 - (j:Int) < (o.m:Int):=by omega
       have HTD:=Lib.hid hTd
       clear hTd hm
       go_wp2_with fail
       go_roundw
       case rel =>
        have e1:T.getD j []=EE.getD j []:=by rw [HTD.out,HEN.out j hlt]
        refine ⟨j+1,.slice sa PO.length sc,by omega,by go_num,?_,?_,HKR.out⟩
        ·rw [pvOnes,if_pos e1,← HPOB.out.1];exact HOWN.out
        ·rw [pvBits,if_pos e1,← HPOB.out.2];exact HB.out
       case measure=>simp [intOf];omega
    ·obtain rfl:j=256:=by omega
     have hm:True:=trivial
     have h8:=(HKR.out.block q8 H8C.out.2.2 (by simp;exact H8C.out.2.1)).trans H8C.out.1
     have H8:=Lib.hid h8
     clear h8
     go_wp2_with (first | (refine wpList_load_mid rfl 57 (.tmp 14) rfl g14 0 (by rfl) C _ HRG.out Tryz.underlying57 rfl HSC.out ?_;try simp only [zA,zB,zC,zD,zE,zF,zG,zH]) | (refine wl_store rfl 57 (.tmp 8) (.tmp 146) rfl ?_;refine ⟨_,run_store_pf H8.out HZ.out.1 HC.out.2.1 HC.out.2.2,?_⟩;try simp only [zA,zB,zC,zD,zE,zF,zG,zH]))
     refine bodyPost_ret (results_row2 (cs:=C) rfl rfl rfl (rangeAt_all (store_all H8.out (by rw [HZ.out.1,HC.out.2.1]))) Tryz.underlying57 rfl HSC.out) rfl ⟨⟨o,.slice av o.val.length cv,.slice sa PO.length sc,HEND.out,?_,?_,?_,?_⟩,?_⟩
     ·rw [HC.out.1]
      unfold overPf
      rw [← HEE.out,← HTT.out,HPOB.out.2]
      rfl
     ·refine ownsRow_keep HOV.out (fun i hi=>?_)
      have h1:=HVB.out i hi
      have h2:=(World.ownsRow.lt HOV.out i hi).2
      have h3:=HGZ.out
      have h5:q8 < wz.heap.size:=by
       have h1:q8 < w1.heap.size:=lt_of_heap HB8.out
       have h2:=(K4.out.trans (G:=[]) HK4Z.out (by simp)).size
       omega
      rw [heap_setCells_other _ _ _ (by omega)]
      exact HKR.out.block i h2 (by simp;omega)
     ·have hx:OwnS (wr.setCells q8 0 C) (.slice sa PO.length sc) PO:=by
       refine ownsRow_base (ownsRow_keep HOWN.out (fun i hi=>heap_setCells_other _ _ _ (by have:=(World.ownsRow.lt HOWN.out i hi).1;have:=H8C.out.2.2;omega) _ _))
      have e:(overPf ns key k o).sums=PO:=by
       unfold overPf
       rw [← HEE.out,← HTT.out,← HPOB.out.1]
      rw [e]
      exact ownS_sums hx
     ·intro i hi
      have h1:=(World.ownsRow.lt HOWN.out i hi).1
      have h2:=HKWZ.out.size
      have h3:=HKC.out.size
      omega
     ·have k1:Keeps [] w wc:=HKWZ.out.trans (G:=[g14,g17]) HKC.out (fun i hi=>.inr (by have:=HGZ.out;simp at hi;omega))
      have k2:=k1.trans (G:=[g14]) HKR.out (fun i hi=>.inr (by have:=HGZ.out;simp at hi;omega))
      exact k2.setCells (.inr (by have:=HE8.out;omega)) _ _
open Go.RowKit
theorem StoreOn.keeps {w w':World} {s b:Nat} {S:St} {d:D} {F G H:List Nat} (h:StoreOn w s b S d F G) (hk:Keeps H w w') (h1:∀ k∈F,k ∉ H) (h2:∀ k∈G,k ∉ H):StoreOn w' s b S d F G:=by
 obtain ⟨hd,⟨bf,c,bm,sv,hs,rfl⟩,hap⟩:=h
 exact ⟨hd.keeps hk h1,⟨bf,c,bm,sv,hs.keeps hk h2,rfl⟩,hap⟩
theorem StoreOn.lt {w:World} {s b:Nat} {S:St} {d:D} {F G:List Nat} (h:StoreOn w s b S d F G):∀ k,k∈F∨k∈G→k < w.heap.size:=by
 obtain ⟨hd,⟨bf,c,bm,sv,hs,rfl⟩,hap⟩:=h
 exact fun k hk=>hk.elim (hd.lt k) (hs.lt k)
theorem stage_1 {w:World} {s b:Nat} {S:St} {d:D} {F G:List Nat} {v:Value} {load:List UInt8} (h:StoreOn w s b S d F G) (hl:liveE d S.f=0) (hv:BytesAt w v load)
  (hll:load.length≤246) (hroom:S.f.sup.mark+S.C.kept.length < d.n) :
  Calls Tryz.prog 6 #[.pointer (some ⟨s,0,none⟩),.int .i64 1,v] w fun e w'=>e=.returned (.tuple #[.int .i64 (S.f.sup.mark+S.C.kept.length),.int .i64 0]) ∧
   ∃ eb lv G',StoreOn w' s b (S.stage ⟨eb,S.f.sup.mark+S.C.kept.length,1,lv,load⟩) d F G'∧Keeps G w w'∧From w G G':=by
 obtain ⟨hd,⟨bf,c,bm,sv,hs,rfl⟩,hap⟩:=h
 refine (sStage_1 hs hd hl hv hll hroom).mono ?_
 rintro e w' ⟨rfl,eb,lv,sv',hs',hk,hf⟩
 refine ⟨rfl,eb,lv,_,⟨hd.keeps hk hap,⟨bf,c,bm,sv',hs',rfl⟩,fun k hk' hg=>?_⟩,hk,hf⟩
 rcases hf k hg with h1 | h1
 ·exact hap k hk' h1
 ·have:=hd.lt k hk'
  omega
theorem stage_2 {w:World} {s b:Nat} {S:St} {d:D} {F G:List Nat} {v:Value} {load:List UInt8} (h:StoreOn w s b S d F G) (hl:liveE d S.f=0) (hv:BytesAt w v load)
  (hll:load.length≤246) (hroom:S.f.sup.mark+S.C.kept.length < d.n) :
  Calls Tryz.prog 6 #[.pointer (some ⟨s,0,none⟩),.int .i64 2,v] w fun e w'=>e=.returned (.tuple #[.int .i64 (S.f.sup.mark+S.C.kept.length),.int .i64 0]) ∧
   ∃ eb lv G',StoreOn w' s b (S.stage ⟨eb,S.f.sup.mark+S.C.kept.length,2,lv,load⟩) d F G'∧Keeps G w w'∧From w G G':=by
 obtain ⟨hd,⟨bf,c,bm,sv,hs,rfl⟩,hap⟩:=h
 refine (sStage_2 hs hd hl hv hll hroom).mono ?_
 rintro e w' ⟨rfl,eb,lv,sv',hs',hk,hf⟩
 refine ⟨rfl,eb,lv,_,⟨hd.keeps hk hap,⟨bf,c,bm,sv',hs',rfl⟩,fun k hk' hg=>?_⟩,hk,hf⟩
 rcases hf k hg with h1 | h1
 ·exact hap k hk' h1
 ·have:=hd.lt k hk'
  omega
theorem stage_3 {w:World} {s b:Nat} {S:St} {d:D} {F G:List Nat} {v:Value} {load:List UInt8} (h:StoreOn w s b S d F G) (hl:liveE d S.f=0) (hv:BytesAt w v load)
  (hll:load.length≤246) (hroom:S.f.sup.mark+S.C.kept.length < d.n) :
  Calls Tryz.prog 6 #[.pointer (some ⟨s,0,none⟩),.int .i64 3,v] w fun e w'=>e=.returned (.tuple #[.int .i64 (S.f.sup.mark+S.C.kept.length),.int .i64 0]) ∧
   ∃ eb lv G',StoreOn w' s b (S.stage ⟨eb,S.f.sup.mark+S.C.kept.length,3,lv,load⟩) d F G'∧Keeps G w w'∧From w G G':=by
 obtain ⟨hd,⟨bf,c,bm,sv,hs,rfl⟩,hap⟩:=h
 refine (sStage_3 hs hd hl hv hll hroom).mono ?_
 rintro e w' ⟨rfl,eb,lv,sv',hs',hk,hf⟩
 refine ⟨rfl,eb,lv,_,⟨hd.keeps hk hap,⟨bf,c,bm,sv',hs',rfl⟩,fun k hk' hg=>?_⟩,hk,hf⟩
 rcases hf k hg with h1 | h1
 ·exact hap k hk' h1
 ·have:=hd.lt k hk'
  omega
theorem stage_ok {w:World} {s b:Nat} {S:St} {d:D} {F G:List Nat} {v:Value} {load:List UInt8} {kind:Int} (h:StoreOn w s b S d F G) (hl:liveE d S.f=0) (hv:BytesAt w v load)
  (hll:load.length≤246) (hroom:S.f.sup.mark+S.C.kept.length < d.n) (hk:1≤kind∧kind≤3) :
  Calls Tryz.prog 6 #[.pointer (some ⟨s,0,none⟩),.int .i64 kind,v] w fun e w'=>e=.returned (.tuple #[.int .i64 (S.f.sup.mark+S.C.kept.length),.int .i64 0]) ∧
   ∃ eb lv G',StoreOn w' s b (S.stage ⟨eb,S.f.sup.mark+S.C.kept.length,kind,lv,load⟩) d F G'∧Keeps G w w'∧From w G G':=by
 have:kind=1∨kind=2∨kind=3:=by omega
 rcases this with rfl | rfl | rfl
 ·exact stage_1 h hl hv hll hroom
 ·exact stage_2 h hl hv hll hroom
 ·exact stage_3 h hl hv hll hroom
def PB (w:World) (q:Nat) (Z:List Value):Prop:=w.heap[q]?=some (.cells Z.toArray 57 (0,0))
theorem PB.lt {w:World} {q:Nat} {Z:List Value} (h:PB w q Z):q < w.heap.size:=lt_of_heap h
set_option maxRecDepth 100000 in
set_option maxHeartbeats 800000 in
theorem sStage_kind {w:World} {s b bf c bm:Nat} {S:St} {sv v:Value} {d:D} {F:List Nat} {kind:Int} (h:StoreIn w s b S bf c bm sv) (hd:DiskAt w b d F) (hl:liveE d S.f=0) (hk:kind < 1∨3 < kind) :
  Calls Tryz.prog 6 #[.pointer (some ⟨s,0,none⟩),.int .i64 kind,v] w fun e w'=>e=.returned (.tuple #[.int .i64 0,.int .i64 50])∧Keeps [] w w':=by
 have CL:=sLive_any h hd
 rw [hl] at CL
 have CL':=Lib.hid CL
 have a1:¬ kind=1:=by omega
 have a2:¬ kind=2:=by omega
 have a3:¬ kind=3:=by omega
 have n1:(kind != 1)=true:=by simp [a1]
 have n2:(kind != 2)=true:=by simp [a2]
 have n3:(kind != 3)=true:=by simp [a3]
 clear a1 a2 a3
 clear h hd hl hk CL
 go_enter Tryz.func6,Tryz.ntmps6
 go_wp2_with (first | (go_at_call 20;refine CL'.out.mono ?_;rintro e w1 ⟨rfl,hk1⟩))
 go_ret2
 exact ⟨rfl,hk1⟩
set_option maxRecDepth 100000 in
set_option maxHeartbeats 800000 in
theorem sStage_load {w:World} {s b bf c bm:Nat} {S:St} {sv v:Value} {d:D} {F:List Nat} {kind:Int} {load:List UInt8} (h:StoreIn w s b S bf c bm sv) (hd:DiskAt w b d F) (hl:liveE d S.f=0) (hk:1≤kind∧kind≤3) (hv:BytesAt w v load) (hll:246 < load.length) :
  Calls Tryz.prog 6 #[.pointer (some ⟨s,0,none⟩),.int .i64 kind,v] w fun e w'=>e=.returned (.tuple #[.int .i64 0,.int .i64 51])∧Keeps [] w w':=by
 obtain ⟨va,vc,rfl,hvc,hvm⟩:=hv.form
 have CL:=sLive_any h hd
 rw [hl] at CL
 have CL':=Lib.hid CL
 have hll2:246 < (load.length:Int):=by omega
 clear h hd hl CL hvc hvm hv hll
 have:kind=1∨kind=2∨kind=3:=by omega
 clear hk
 rcases this with rfl | rfl | rfl
 all_goals
  go_enter Tryz.func6,Tryz.ntmps6
  go_wp2_with (first | (go_at_call 20;refine CL'.out.mono ?_;rintro e w1 ⟨rfl,hk1⟩))
  go_ret2
  exact ⟨rfl,hk1⟩
end Go.Proofs.YtakaocenbempmaaGreatDoor
