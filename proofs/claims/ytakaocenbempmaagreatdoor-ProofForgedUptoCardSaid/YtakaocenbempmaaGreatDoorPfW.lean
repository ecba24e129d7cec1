/-
  Lemmas of a claim, bundle W: XR9C XNdL XNdM XNdN XNdO.
-/
import Derived.Test.YtakaocenbempmaaGreatDoorPfV
set_option linter.unusedVariables false
set_option linter.unusedSimpArgs false
namespace Go.Proofs.YtakaocenbempmaaGreatDoor
open Go.RowKit
set_option maxRecDepth 100000 in
set_option maxHeartbeats 6400000 in
theorem r9ClimbWith_any {w:World} {key d:List UInt8} {ge oe ce:Nat} (hkl:key.length=32) (hd:d.length=32) (n:Int) (k:Nat) (hk:(k:Int)=max 0 (min n 32)) (ht:RTabs w) (t:Nat) (ht2:t≤256) (hes:w.rangeAt ge oe (sumCells (emptiesL k 257))) (hge:ge < w.heap.size) :
  Calls Tryz.prog 35 #[.slice (some ⟨ge,oe,none⟩) 257 ce,.int .i64 n,.agg (key.map B).toArray,.int .i64 0,.agg (d.map B).toArray,.int .i64 t] w fun e w'=>e=.returned (.agg ((climbD k key 0 d t).map B).toArray)∧Keeps [] w w':=by
 have hk32:k≤32:=by omega
 obtain ⟨R,hR⟩:∃ R,R=climbD k key 0 d t:=⟨_,rfl⟩
 rw [← hR]
 obtain ⟨Z,hZl,hZi⟩:=info_dig
 obtain ⟨C0,hC0⟩:∃ C,C=cutL d k:=⟨_,rfl⟩
 have hC0l:C0.length=32:=by rw [hC0];exact cutL_length hd hk32
 obtain ⟨g8,hg8⟩:∃ x,x=w.heap.size:=⟨_,rfl⟩
 obtain ⟨wa,hwa⟩:∃ x,x=w.alloc (.cells (key.map B).toArray 60 (0,0)):=⟨_,rfl⟩
 obtain ⟨g10,hg10⟩:∃ x,x=w.heap.size+1:=⟨_,rfl⟩
 have eg10:g10=wa.heap.size:=by rw [hwa,hg10];simp
 obtain ⟨wb,hwb⟩:∃ x,x=wa.alloc (.cells (d.map B).toArray 88 (0,0)):=⟨_,rfl⟩
 obtain ⟨g12,hg12⟩:∃ x,x=wb.heap.size:=⟨_,rfl⟩
 have e12:g12=w.heap.size+2:=by rw [hg12,hwb,hwa];simp
 obtain ⟨w1,hw1⟩:∃ x,x=wb.alloc (.cells (Z.map B).toArray 88 (0,0)):=⟨_,rfl⟩
 have k1:Keeps [] w w1:=by rw [hw1,hwb,hwa];exact (((Keeps.refl _ _).alloc _).alloc _).alloc _
 have b8:Blk w1 g8 60 key:=by rw [hw1];exact (heap_old_at (by rw [← hg12];omega)).trans (by rw [hwb];exact (heap_old_at (by rw [← eg10];omega)).trans (by rw [hwa];exact heap_new_at hg8))
 have b10:Blk w1 g10 88 d:=by rw [hw1];exact (heap_old_at (by rw [← hg12];omega)).trans (by rw [hwb];exact heap_new_at eg10)
 have b12:Blk w1 g12 88 Z:=by rw [hw1];exact heap_new_at hg12
 have hcut:=fun (wx:World)=>r1Cut_any (w:=wx) hd n k (by omega)
 rw [← hC0] at hcut
 have hwi0:(if (0:Int) < 0 then (0:Int) else if (256:Int) < 0 then 256 else 0)=0:=by decide
 have hwit:(if (t:Int) < 0 then (0:Int) else if (256:Int) < (t:Int) then 256 else (t:Int))=(t:Int):=by rw [if_neg (by omega),if_neg (by omega)]
 have hbr:=fun (wx:World) (a b:List UInt8) (ha:a.length=32) (hb:b.length=32) (hx:RTabs wx)=>r9Branch_any (w:=wx) ha hb n k hk hx
 have hesm:=emptiesL_32 hk32 257
 have hel:=emptiesL_length k 257
 have HBR:=Lib.hid hbr
 have HWI0:=Lib.hid hwi0
 have HWIT:=Lib.hid hwit
 have HCUT:=Lib.hid hcut
 have HR:=Lib.hid hR
 have HZI:=Lib.hid hZi
 have HZL:=Lib.hid hZl
 have HC0:=Lib.hid hC0
 have HC0L:=Lib.hid hC0l
 have HG8:=Lib.hid hg8
 have HWA:=Lib.hid hwa
 have HG10:=Lib.hid hg10
 have HWB:=Lib.hid hwb
 have HG12:=Lib.hid hg12
 have HE12:=Lib.hid e12
 have HW1:=Lib.hid hw1
 have HK1:=Lib.hid k1
 have HB8:=Lib.hid b8
 have HB10:=Lib.hid b10
 have HB12:=Lib.hid b12
 have HT:=Lib.hid (ht.keeps k1 (by simp) (by simp))
 have HTL:=Lib.hid ht.lt
 have HES:=Lib.hid (fun (wx:World) (h:Keeps [g10] w1 wx) (j:Nat) (hj:j < 257)=>sum_range (x:=emptyD k j) (rangeAt_of_heap hes ((h.block ge (by have:=k1.size;omega) (by simp;omega)).trans (k1.block ge hge (by simp)))) hesm (by unfold emptiesL;rw [List.getElem?_map,List.getElem?_range hj];rfl))
 have HKL:=Lib.hid hkl
 have HDL:=Lib.hid hd
 have HK32:=Lib.hid hk32
 have HRK:=Lib.hid (rangeAt_all b8)
 have HSK:=Lib.hid (size_key_of hkl)
 have HSD:=Lib.hid (dg_size_of hd)
 have HBIT:=Lib.hid (fun (wx:World) (i:Nat) (hi:i < 256)=>r9Bit_any (w:=wx) hkl i hi)
 clear hR hZl hZi hC0 hC0l hg8 hwa hg10 eg10 hwb hg12 e12 hw1 k1 b8 b10 b12 hcut hwi0 hwit hbr hesm hel ht hes hge hkl hd hk hk32
 go_enter Tryz.func35,Tryz.ntmps35
 go_upto_region 1 with (first | (refine wl_alloc rfl 88 rfl ?_;refine ⟨_,_,run_alloc _ HZI.out,?_⟩;try simp only [zA,zB,zC,zD,zE,zF,zG,zH]))
 try simp only [Value.cells]
 rw [← HWA.out,← HWB.out,← HW1.out,← HG12.out,← HG10.out,← HG8.out]
 go_upto_region 3 with (first | (go_at_call 63;refine (r9Within_any _ _ _).mono ?_;rintro e wy ⟨rfl,rfl⟩;first | rw [HWI0.out] | rw [HWIT.out]))
 have HR10:=Lib.hid (rangeAt_all HB10.out)
 go_upto_region 4 with (first | (refine wpList_load_mid rfl 88 (.tmp 10) rfl g10 0 (by rfl) (d.map B) _ HR10.out Tryz.underlying88 rfl HSD.out ?_;try simp only [zA,zB,zC,zD,zE,zF,zG,zH]) | (go_at_call 64;refine (HCUT.out _).mono ?_;rintro e w2 ⟨rfl,hk2⟩) | (refine wl_store rfl 88 (.tmp 10) (.tmp 23) rfl ?_;refine ⟨_,run_store_dig (HB10.out.keeps hk2 (by simp)) HDL.out HC0L.out,?_⟩;try simp only [zA,zB,zC,zD,zE,zF,zG,zH]))
 obtain ⟨w3,hw3⟩:∃ x,x=w2.setCells g10 0 (C0.map B):=⟨_,rfl⟩
 have b3:Blk w3 g10 88 C0:=by rw [hw3];exact dig_store (x:=C0) (HB10.out.keeps hk2 (by simp)) (by rw [HDL.out,HC0L.out])
 have k3:Keeps [g10] w1 w3:=by rw [hw3];exact (hk2.mono (by simp)).setCells (.inl (by simp)) _ _
 rw [← hw3]
 have HB3:=Lib.hid b3
 have HK3:=Lib.hid k3
 clear hw3 b3 k3 hk2 HR10
 go_wp2_with fail
 go_loopw [15] (fun iv wr=>∃ h:Nat,h≤t∧iv=.int .i64 h∧Blk wr g10 88 (climbN k key 0 C0 h)∧Keeps [g10] w1 wr) (fun iv _=>t - (intOf iv).toNat)
 case atStart=>exact ⟨0,Nat.zero_le _,rfl,HB3.out,HK3.out⟩
 case round =>
  obtain ⟨h,hh,rfl,hb,hkr⟩:=hrel
  have h0:(0:Int)≤(h:Int):=by omega
  obtain ⟨C,hC⟩:∃ C,C=climbN k key 0 C0 h:=⟨_,rfl⟩
  rw [← hC] at hb
  have hCl:C.length=32:=by rw [hC];exact climbN_length HK32.out HC0L.out h
  have HC:=Lib.hid hC
  have HCL:=Lib.hid hCl
  have HB:=Lib.hid hb
  have HKR:=Lib.hid hkr
  have HSC:=Lib.hid (dg_size_of hCl)
  clear hC hCl hb hkr
  by_cases hlt:h < t
  ·have h1:(h:Int) < (t:Int):=by omega
   have h2:(h:Int) < 257:=by omega
   have h2':(h:Int) < ((257:Nat):Int):=by omega
   obtain ⟨i,hi⟩:∃ i,i=255 - h:=⟨_,rfl⟩
   have e1:255 - (h:Int)=(i:Int):=by omega
   obtain ⟨bt,hbt⟩:∃ b,b=bitK key i:=⟨_,rfl⟩
   have hbit:=fun (wx:World)=>HBIT.out wx i (by omega)
   rw [← hbt] at hbit
   have hb2:bt < 2:=by rw [hbt];unfold bitK;omega
   obtain ⟨E,hE⟩:∃ E,E=emptyD k h:=⟨_,rfl⟩
   have hEl:E.length=32:=by rw [hE];exact emptyD_length HK32.out h
   have hrE:=fun (wx:World) (hx:Keeps [g10] w1 wx)=>HES.out wx hx h (by omega)
   rw [← hE] at hrE
   have HBI:=Lib.hid hbit
   have HRE:=Lib.hid hrE
   have HE:=Lib.hid (And.intro hE hEl)
   have HBT:=Lib.hid (And.intro hbt hi)
   have HSE:=Lib.hid (dg_size_of hEl)
   have HTR:=Lib.hid (fun (wx:World) (hx:Keeps [g10] w1 wx)=>HT.out.keeps hx (by have:=HTL.out;have:=HG10.out;simp;omega) (by have:=HTL.out;have:=HG10.out;simp;omega))
   have HRK2:=Lib.hid (rangeAt_all (HB8.out.keeps HKR.out (by have:=HG8.out;have:=HG10.out;simp;omega)))
   clear hbit hrE hE hEl hbt hi
   go_upto_region 8 with (first | (refine wpList_load_mid rfl 60 (.tmp 8) rfl g8 0 (by rfl) (key.map B) _ HRK2.out Tryz.underlying60 rfl HSK.out ?_;try simp only [zA,zB,zC,zD,zE,zF,zG,zH]) | (go_at_call 65;refine (HBI.out _).mono ?_;rintro e w4 ⟨rfl,hk4⟩))
   have HB4:=Lib.hid (HB.out.keeps hk4 (by simp))
   have HK4:=Lib.hid (HKR.out.trans (G:=[]) hk4 (by simp))
   clear hk4
   by_cases hz:bt=0
   ·have hz1:(bt:Int)=0:=by omega
    obtain ⟨D,hD⟩:∃ D,D=branchD k C E:=⟨_,rfl⟩
    have hDl:D.length=32:=by rw [hD];exact cutL_length (shaL_length _) HK32.out
    have hbra:=fun (wx:World) (hx:Keeps [g10] w1 wx)=>HBR.out wx C E HCL.out HE.out.2 (HTR.out wx hx)
    rw [← hD] at hbra
    have HBRA:=Lib.hid hbra
    have HD:=Lib.hid hD
    have HDL2:=Lib.hid hDl
    have hst:=HE.out.1
    have HCN:=Lib.hid (show climbN k key 0 C0 (h+1)=D by
     show climbStep k key (0+h) (climbN k key 0 C0 h)=D
     rw [← HC.out,climbStep,Nat.zero_add,← HBT.out.2,← HBT.out.1,if_pos hz,← hst,hD])
    clear hD hDl hbra hst
    go_upto_region 9 with fail
    refine rl_start (fun w'=>w'.rangeAt g10 0 (C.map B)∧w'.rangeAt ge (oe+h * 32) (E.map B)) 7 (by kernel_rfl) ?_ (fun hHeld=>?_)
    ·exact ⟨rangeAt_all (HB4.out.keeps (F:=[]) (Keeps.refl _ _).drew (by simp)),HRE.out _ HK4.out.drew⟩
    refine rk 0 ?_
    refine rkb 1 rfl (yieldsIf_load_mid (by rfl) 88 (.tmp 10) rfl g10 0 rfl (C.map B) _ (fun _ h=>h.1) Tryz.underlying88 rfl HSC.out) ?_
    refine rk 2 ?_
    refine rk 3 ?_
    refine rk 4 ?_
    refine rkb 5 rfl (yieldsIf_load_mid (by rfl) 88 (.tmp 40) rfl ge (oe+h * 32) rfl (E.map B) _ (fun _ h=>h.2) Tryz.underlying88 rfl HSE.out) ?_
    refine rl_act (i:=6) (by kernel_rfl) rfl (fun K hK=>?_)
    go_simp
    refine (HBRA.out _ HK4.out.drew).mono ?_
    rintro e w5 ⟨rfl,hk5⟩
    have HB5:=Lib.hid (HB4.out.keeps (F:=[]) ((Keeps.refl [] w4).drew.trans (G:=[]) hk5 (by simp)) (by simp))
    have HK5:=Lib.hid (HK4.out.drew.trans (G:=[]) hk5 (by simp))
    clear hk5
    refine hK.out _ _ ?_ (fun hHeld=>?_)
    ·exact ⟨rangeAt_all HB5.out,HRE.out _ HK5.out⟩
    clear hK K
    try simp only [zA,zB,zC,zD,zE,zF,zG,zH]
    refine rl_last (by kernel_rfl) (by kernel_rfl) rfl (fun K hK=>?_)
    (refine st_store rfl 88 (.tmp 10) (.tmp 42) rfl ?_;refine ⟨_,run_store_dig HB5.out HCL.out HDL2.out,?_⟩;try simp only [zA,zB,zC,zD,zE,zF,zG,zH])
    refine hK.out _ _ ?_
    clear hK K
    try simp only [zA,zB,zC,zD,zE,zF,zG,zH]
    clear hHeld
    go_wp2_with fail
    go_roundw
    case rel =>
     refine ⟨h+1,by omega,by go_num,?_,HK5.out.setCells (.inl (by simp)) _ _⟩
     rw [HCN.out]
     exact dig_store (x:=D) HB5.out (by rw [HCL.out,HDL2.out])
    case measure=>simp [intOf];omega
   ·have hz1:¬ (bt:Int)=0:=by omega
    obtain ⟨D,hD⟩:∃ D,D=branchD k E C:=⟨_,rfl⟩
    have hDl:D.length=32:=by rw [hD];exact cutL_length (shaL_length _) HK32.out
    have hbra:=fun (wx:World) (hx:Keeps [g10] w1 wx)=>HBR.out wx E C HE.out.2 HCL.out (HTR.out wx hx)
    rw [← hD] at hbra
    have HBRA:=Lib.hid hbra
    have HD:=Lib.hid hD
    have HDL2:=Lib.hid hDl
    have hst:=HE.out.1
    have HCN:=Lib.hid (show climbN k key 0 C0 (h+1)=D by
     show climbStep k key (0+h) (climbN k key 0 C0 h)=D
     rw [← HC.out,climbStep,Nat.zero_add,← HBT.out.2,← HBT.out.1,if_neg hz,← hst,hD])
    clear hD hDl hbra hst
    go_upto_region 10 with fail
    refine rl_start (fun w'=>w'.rangeAt g10 0 (C.map B)∧w'.rangeAt ge (oe+h * 32) (E.map B)) 7 (by kernel_rfl) ?_ (fun hHeld=>?_)
    ·exact ⟨rangeAt_all (HB4.out.keeps (F:=[]) (Keeps.refl _ _).drew (by simp)),HRE.out _ HK4.out.drew⟩
    refine rk 0 ?_
    refine rk 1 ?_
    refine rk 2 ?_
    refine rk 3 ?_
    refine rkb 4 rfl (yieldsIf_load_mid (by rfl) 88 (.tmp 46) rfl ge (oe+h * 32) rfl (E.map B) _ (fun _ h=>h.2) Tryz.underlying88 rfl HSE.out) ?_
    refine rkb 5 rfl (yieldsIf_load_mid (by rfl) 88 (.tmp 10) rfl g10 0 rfl (C.map B) _ (fun _ h=>h.1) Tryz.underlying88 rfl HSC.out) ?_
    refine rl_act (i:=6) (by kernel_rfl) rfl (fun K hK=>?_)
    go_simp
    refine (HBRA.out _ HK4.out.drew).mono ?_
    rintro e w5 ⟨rfl,hk5⟩
    have HB5:=Lib.hid (HB4.out.keeps (F:=[]) ((Keeps.refl [] w4).drew.trans (G:=[]) hk5 (by simp)) (by simp))
    have HK5:=Lib.hid (HK4.out.drew.trans (G:=[]) hk5 (by simp))
    clear hk5
    refine hK.out _ _ ?_ (fun hHeld=>?_)
    ·exact ⟨rangeAt_all HB5.out,HRE.out _ HK5.out⟩
    clear hK K
    try simp only [zA,zB,zC,zD,zE,zF,zG,zH]
    refine rl_last (by kernel_rfl) (by kernel_rfl) rfl (fun K hK=>?_)
    (refine st_store rfl 88 (.tmp 10) (.tmp 49) rfl ?_;refine ⟨_,run_store_dig HB5.out HCL.out HDL2.out,?_⟩;try simp only [zA,zB,zC,zD,zE,zF,zG,zH])
    refine hK.out _ _ ?_
    clear hK K
    try simp only [zA,zB,zC,zD,zE,zF,zG,zH]
    clear hHeld
    go_wp2_with fail
    go_roundw
    case rel =>
     refine ⟨h+1,by omega,by go_num,?_,HK5.out.setCells (.inl (by simp)) _ _⟩
     rw [HCN.out]
     exact dig_store (x:=D) HB5.out (by rw [HCL.out,HDL2.out])
    case measure=>simp [intOf];omega
  ·obtain rfl:t=h:=by omega
   have h1:¬ (t:Int) < (t:Int):=by omega
   have hRC:C=R:=by rw [HC.out,HR.out,HC0.out];rfl
   have HRC:=Lib.hid hRC
   have HRG:=Lib.hid (rangeAt_all HB.out)
   have h12:=HB12.out.keeps HKR.out (by have:=HE12.out;have:=HG10.out;simp;omega)
   have HST:=Lib.hid (run_store_dig h12 HZL.out HCL.out)
   have HWF:=Lib.hid (dig_store (x:=C) h12 (by rw [HZL.out,HCL.out]))
   clear hRC h12
   go_wp2_with (first | (refine wpList_load_mid rfl 88 (.tmp 10) rfl g10 0 (by rfl) (C.map B) _ HRG.out Tryz.underlying88 rfl HSC.out ?_;try simp only [zA,zB,zC,zD,zE,zF,zG,zH]) | (refine wl_store rfl 88 (.tmp 12) (.tmp 50) rfl ?_;refine ⟨_,HST.out,?_⟩;try simp only [zA,zB,zC,zD,zE,zF,zG,zH]))
   refine bodyPost_ret (v:=.agg (C.map B).toArray) (results_row (by rfl) (by rfl) (rangeAt_all HWF.out) Tryz.underlying88 rfl HSC.out) rfl ⟨by rw [HRC.out],?_⟩
   exact (((HK1.out.trans (G:=[g10]) HKR.out (fun j hj=>.inr (by simp at hj;have:=HG10.out;omega))).mono (by simp)).setCells (.inr (by have:=HE12.out;omega)) _ _)
open Go.RowKit
set_option maxRecDepth 100000 in
set_option maxHeartbeats 6400000 in
theorem branchStands_any {w:World} {lp lc rp rc:Nat} {ls rs:List UInt8} (hl:ls.length=32) (hr:rs.length=32) (h1:lp < 4294967296) (h2:lc < 4294967296) (h3:rp < 4294967296) (h4:rc < 4294967296) :
  Calls Tryz.prog 142 #[.agg (branchC lp lc ls rp rc rs).toArray] w fun e w'=>e=.returned (.bool (branchOk lp lc ls rp rc rs))∧Keeps [] w w':=by
 obtain ⟨C,hC⟩:∃ C,C=branchC lp lc ls rp rc rs:=⟨_,rfl⟩
 obtain ⟨CL,hCL⟩:∃ C,C=childC lp lc ls:=⟨_,rfl⟩
 obtain ⟨CR,hCR⟩:∃ C,C=childC rp rc rs:=⟨_,rfl⟩
 obtain ⟨q,hq⟩:∃ q,q=w.heap.size:=⟨_,rfl⟩
 obtain ⟨w1,hw1⟩:∃ x,x=w.alloc (.cells C.toArray 194 (0,0)):=⟨_,rfl⟩
 have k1:Keeps [] w w1:=by rw [hw1];exact (Keeps.refl _ _).alloc _
 have hb:=fun (wx:World) (hk:Keeps [] w1 wx)=>branch_cells (w:=wx) hl ((hk.block q (by rw [hw1,hq];simp) (by simp)).trans (show w1.heap[q]?=some (.cells (branchC lp lc ls rp rc rs).toArray 194 (0,0)) by rw [hw1,← hC];exact heap_new_at hq))
 rw [← hCL,← hCR] at hb
 obtain ⟨⟨c0,c1,c34,c35⟩,rl,rr⟩:=hb w1 (Keeps.refl _ _)
 have hsl:=fun (wx:World)=>childStands_any (w:=wx) hl h1 h2
 have hsr:=fun (wx:World)=>childStands_any (w:=wx) hr h3 h4
 rw [← hCL] at hsl
 rw [← hCR] at hsr
 obtain ⟨okl,hokl⟩:∃ b,b=childOk lp lc ls:=⟨_,rfl⟩
 obtain ⟨okr,hokr⟩:∃ b,b=childOk rp rc rs:=⟨_,rfl⟩
 rw [← hokl] at hsl
 rw [← hokr] at hsr
 obtain ⟨bb,hbb⟩:∃ b,b=branchOk lp lc ls rp rc rs:=⟨_,rfl⟩
 rw [← hC,← hbb]
 have hv:bb=(okl && okr && decide (lp≠rp) && decide (2≤lc+rc) && decide (lc+rc≤4096)):=by rw [hbb,hokl,hokr];rfl
 obtain ⟨n,hn⟩:∃ n,n=lc+rc:=⟨_,rfl⟩
 rw [← hn] at hv
 have en:(lc:Int)+(rc:Int)=(n:Int):=by omega
 have HB:=Lib.hid hb
 have HL:=Lib.hid (rangeAt_of_heap (w':=w1) rl rfl)
 have HS:=Lib.hid (show ∀ (wx:World) (X:List Value) (b:Bool),(X=CL∧b=okl)∨(X=CR∧b=okr)→Calls Tryz.prog 140 #[.agg X.toArray] wx fun e w'=>e=.returned (.bool b)∧Keeps [] wx w' from fun wx X b h=>by
  rcases h with ⟨rfl,rfl⟩ | ⟨rfl,rfl⟩
  ·exact hsl wx
  ·exact hsr wx)
 have HZL:=Lib.hid (show (Tryz.prog.info? 192).map (·.size)=some CL.length by rw [hCL,childC_length hl];exact size_nchild)
 have HZR:=Lib.hid (show (Tryz.prog.info? 192).map (·.size)=some CR.length by rw [hCR,childC_length hr];exact size_nchild)
 have HW1:=Lib.hid hw1
 have HQ:=Lib.hid hq
 have HK1:=Lib.hid k1
 have HV:=Lib.hid hv
 clear hw1 hq k1 hC hCL hCR hbb hv hb hsl hsr hokl hokr rl rr hn
 have HKK:=Lib.hid (Keeps.refl [] w1)
 clear c0 c1 c34 c35
 have c1:=(HB.out w1 HKK.out).1.2.1
 have c35:=(HB.out w1 HKK.out).1.2.2.2
 cases okl with
 | false =>
  have HX:=Lib.hid (show bb=false by rw [HV.out];rfl)
  go_enter Tryz.func142,Tryz.ntmps142
  go_upto_region 1 with fail
  rw [← HW1.out,← HQ.out]
  go_wp2_with (first | (refine wpList_load_mid rfl 192 (.tmp 11) rfl q 0 (by rfl) CL _ HL.out Tryz.underlying192 rfl HZL.out ?_;try simp only [zA,zB,zC,zD,zE,zF,zG,zH]) | (go_at_call 140;refine (HS.out _ _ _ (by first | exact .inl ⟨rfl,rfl⟩ | exact .inr ⟨rfl,rfl⟩)).mono ?_;rintro e wn ⟨rfl,hkn⟩;replace HK1:=Lib.hid (HK1.out.trans (G:=[]) hkn (by simp));replace HKK:=Lib.hid (HKK.out.trans (G:=[]) hkn (by simp));obtain ⟨⟨f0,f1,f34,f35⟩,_⟩:=HB.out _ HKK.out;clear hkn))
  go_ret
  exact ⟨by rw [HX.out];rfl,HK1.out⟩
 | true =>
  cases okr with
  | false =>
   have HX:=Lib.hid (show bb=false by rw [HV.out];rfl)
   go_enter Tryz.func142,Tryz.ntmps142
   go_upto_region 1 with fail
   rw [← HW1.out,← HQ.out]
   go_wp2_with (first | (refine wpList_load_mid rfl 192 (.tmp 11) rfl q 0 (by rfl) CL _ HL.out Tryz.underlying192 rfl HZL.out ?_;try simp only [zA,zB,zC,zD,zE,zF,zG,zH]) | (go_at_call 140;refine (HS.out _ _ _ (by first | exact .inl ⟨rfl,rfl⟩ | exact .inr ⟨rfl,rfl⟩)).mono ?_;rintro e wn ⟨rfl,hkn⟩;replace HK1:=Lib.hid (HK1.out.trans (G:=[]) hkn (by simp));replace HKK:=Lib.hid (HKK.out.trans (G:=[]) hkn (by simp));obtain ⟨⟨f0,f1,f34,f35⟩,_⟩:=HB.out _ HKK.out;clear hkn) | (refine Go.BigFrame.wpList_want (by rfl) fun K hK=>wp_load_mid 192 (.tmp 15) rfl q 34 (by rfl) CR _ (HB.out _ HKK.out).2.2 Tryz.underlying192 rfl HZR.out (hK _ _ ?_);try simp only [zA,zB,zC,zD,zE,zF,zG,zH]))
   go_ret
   exact ⟨by rw [HX.out];rfl,HK1.out⟩
  | true =>
   by_cases e1:lp=rp
   ·subst e1
    have HX:=Lib.hid (show bb=false by rw [HV.out];simp [])
    go_enter Tryz.func142,Tryz.ntmps142
    go_upto_region 1 with fail
    rw [← HW1.out,← HQ.out]
    go_wp2_with (first | (refine wpList_load_mid rfl 192 (.tmp 11) rfl q 0 (by rfl) CL _ HL.out Tryz.underlying192 rfl HZL.out ?_;try simp only [zA,zB,zC,zD,zE,zF,zG,zH]) | (go_at_call 140;refine (HS.out _ _ _ (by first | exact .inl ⟨rfl,rfl⟩ | exact .inr ⟨rfl,rfl⟩)).mono ?_;rintro e wn ⟨rfl,hkn⟩;replace HK1:=Lib.hid (HK1.out.trans (G:=[]) hkn (by simp));replace HKK:=Lib.hid (HKK.out.trans (G:=[]) hkn (by simp));obtain ⟨⟨f0,f1,f34,f35⟩,_⟩:=HB.out _ HKK.out;clear hkn) | (refine Go.BigFrame.wpList_want (by rfl) fun K hK=>wp_load_mid 192 (.tmp 15) rfl q 34 (by rfl) CR _ (HB.out _ HKK.out).2.2 Tryz.underlying192 rfl HZR.out (hK _ _ ?_);try simp only [zA,zB,zC,zD,zE,zF,zG,zH]))
    go_ret
    exact ⟨by rw [HX.out];rfl,HK1.out⟩
   have d1:((lp:Int) != (rp:Int))=true:=by rw [bne_iff_ne];omega
   by_cases e2:2≤n
   rotate_left 1
   ·have d2:¬ (2:Int)≤(n:Int):=by omega
    have HX:=Lib.hid (show bb=false by rw [HV.out];simp [e2])
    clear e2
    go_enter Tryz.func142,Tryz.ntmps142
    go_upto_region 1 with fail
    rw [← HW1.out,← HQ.out]
    go_wp2_with (first | (refine wpList_load_mid rfl 192 (.tmp 11) rfl q 0 (by rfl) CL _ HL.out Tryz.underlying192 rfl HZL.out ?_;try simp only [zA,zB,zC,zD,zE,zF,zG,zH]) | (go_at_call 140;refine (HS.out _ _ _ (by first | exact .inl ⟨rfl,rfl⟩ | exact .inr ⟨rfl,rfl⟩)).mono ?_;rintro e wn ⟨rfl,hkn⟩;replace HK1:=Lib.hid (HK1.out.trans (G:=[]) hkn (by simp));replace HKK:=Lib.hid (HKK.out.trans (G:=[]) hkn (by simp));obtain ⟨⟨f0,f1,f34,f35⟩,_⟩:=HB.out _ HKK.out;clear hkn) | (refine Go.BigFrame.wpList_want (by rfl) fun K hK=>wp_load_mid 192 (.tmp 15) rfl q 34 (by rfl) CR _ (HB.out _ HKK.out).2.2 Tryz.underlying192 rfl HZR.out (hK _ _ ?_);try simp only [zA,zB,zC,zD,zE,zF,zG,zH]))
    go_ret
    exact ⟨by rw [HX.out];rfl,HK1.out⟩
   have d2:(2:Int)≤(n:Int):=by omega
   by_cases e3:n≤4096
   ·have d3:(n:Int)≤4096:=by omega
    have HX:=Lib.hid (show bb=true by rw [HV.out];simp [e1,e2,e3])
    clear e1 e2 e3
    go_enter Tryz.func142,Tryz.ntmps142
    go_upto_region 1 with fail
    rw [← HW1.out,← HQ.out]
    go_wp2_with (first | (refine wpList_load_mid rfl 192 (.tmp 11) rfl q 0 (by rfl) CL _ HL.out Tryz.underlying192 rfl HZL.out ?_;try simp only [zA,zB,zC,zD,zE,zF,zG,zH]) | (go_at_call 140;refine (HS.out _ _ _ (by first | exact .inl ⟨rfl,rfl⟩ | exact .inr ⟨rfl,rfl⟩)).mono ?_;rintro e wn ⟨rfl,hkn⟩;replace HK1:=Lib.hid (HK1.out.trans (G:=[]) hkn (by simp));replace HKK:=Lib.hid (HKK.out.trans (G:=[]) hkn (by simp));obtain ⟨⟨f0,f1,f34,f35⟩,_⟩:=HB.out _ HKK.out;clear hkn) | (refine Go.BigFrame.wpList_want (by rfl) fun K hK=>wp_load_mid 192 (.tmp 15) rfl q 34 (by rfl) CR _ (HB.out _ HKK.out).2.2 Tryz.underlying192 rfl HZR.out (hK _ _ ?_);try simp only [zA,zB,zC,zD,zE,zF,zG,zH]))
    go_ret
    exact ⟨by rw [HX.out];rfl,HK1.out⟩
   ·have D3:=Lib.hid (show ¬ (n:Int)≤4096 by omega)
    have HX:=Lib.hid (show bb=false by rw [HV.out];simp [e3])
    clear e1 e2 e3
    go_enter Tryz.func142,Tryz.ntmps142
    go_upto_region 1 with fail
    rw [← HW1.out,← HQ.out]
    go_wp2_with (first | (refine wpList_load_mid rfl 192 (.tmp 11) rfl q 0 (by rfl) CL _ HL.out Tryz.underlying192 rfl HZL.out ?_;try simp only [zA,zB,zC,zD,zE,zF,zG,zH]) | (go_at_call 140;refine (HS.out _ _ _ (by first | exact .inl ⟨rfl,rfl⟩ | exact .inr ⟨rfl,rfl⟩)).mono ?_;rintro e wn ⟨rfl,hkn⟩;replace HK1:=Lib.hid (HK1.out.trans (G:=[]) hkn (by simp));replace HKK:=Lib.hid (HKK.out.trans (G:=[]) hkn (by simp));obtain ⟨⟨f0,f1,f34,f35⟩,_⟩:=HB.out _ HKK.out;clear hkn) | (refine Go.BigFrame.wpList_want (by rfl) fun K hK=>wp_load_mid 192 (.tmp 15) rfl q 34 (by rfl) CR _ (HB.out _ HKK.out).2.2 Tryz.underlying192 rfl HZR.out (hK _ _ ?_);try simp only [zA,zB,zC,zD,zE,zF,zG,zH]))
    go_ret
    exact ⟨by rw [HX.out];show Ending.returned (.bool (decide ((n:Int)≤4096)))=_;rw [decide_eq_false (show ¬ (n:Int)≤4096 by have:=D3.out;omega)],HK1.out⟩
open Go.RowKit
def leafN (key val:List UInt8):Nde:=⟨1,0,0,0,0,z32,z32,key,val⟩
def branchN (lp lc:Nat) (ls:List UInt8) (rp rc:Nat) (rs:List UInt8):Nde:=⟨2,lp,rp,lc,rc,ls,rs,z32,[]⟩
theorem built_leafN {key:List UInt8} (hk:key.length=32) (a:Option Addr) (n c:Nat) (val:List UInt8) :
  Tryz.prog.built 90 [(0,.int .i64 1),(7,.agg (key.map B).toArray),(8,.slice a n c)]=some (nodeC (leafN key val) (.slice a n c)).toArray:=by
 match key,hk with
 | [k0,k1,k2,k3,k4,k5,k6,k7,k8,k9,k10,k11,k12,k13,k14,k15,k16,k17,k18,k19,k20,k21,k22,k23,k24,k25,k26,k27,k28,k29,k30,k31],_ =>
  show _=_
  kernel_rfl
theorem run_build_leafN {key:List UInt8} (hk:key.length=32) (a:Option Addr) (n c:Nat) (val:List UInt8) (w:World) :
  (Instr.build 90 #[(0,.int .i64 1),(7,.agg (key.map B).toArray),(8,.slice a n c)]).run Tryz.prog w=.ok (.agg (nodeC (leafN key val) (.slice a n c)).toArray) w :=
 run_build w _ _ _ (built_leafN hk a n c val)
theorem as_leaf_yes (v:Value) (w:World):(Instr.typeAssert (.iface 189 v) 176 189 true).run Tryz.prog w=.ok (.tuple #[v,.bool true]) w:=by kernel_rfl
theorem as_leaf_no (v:Value) (w:World):(Instr.typeAssert (.iface 194 v) 176 189 true).run Tryz.prog w=.ok (.tuple #[.agg (leafC z32 (.slice none 0 0)).toArray,.bool false]) w:=by kernel_rfl
theorem as_branch_yes (v:Value) (w:World):(Instr.typeAssert (.iface 194 v) 176 194 true).run Tryz.prog w=.ok (.tuple #[v,.bool true]) w:=by kernel_rfl
set_option maxRecDepth 100000 in
set_option maxHeartbeats 3200000 in
theorem nodeOf_leaf {w:World} {key val:List UInt8} {vv:Value} (hk:key.length=32) (hv:BytesAt w vv val) (hvl:val.length≤2097152) :
  Calls Tryz.prog 100 #[.iface 189 (.agg (leafC key vv).toArray)] w fun e w'=>∃ a c,e=.returned (.agg (nodeC (leafN key val) (.slice a val.length c)).toArray)∧OwnB w' (.slice a val.length c) val∧(∀ k,(Value.slice a val.length c).ownBlock=some k→w.heap.size≤k)∧Keeps [] w w':=by
 obtain ⟨va,vc,rfl,hvc,hvm⟩:=hv.form
 obtain ⟨C,hC⟩:∃ C,C=leafC key (.slice va val.length vc):=⟨_,rfl⟩
 have hCl:C.length=33:=by rw [hC];exact leafC_length hk _
 obtain ⟨Z,hZ,hZi⟩:∃ Z:List Value,Z.length=102∧(Tryz.prog.info? 90).map (fun i=>(i.zero,i.size,i.bytes))=some (some (.agg Z.toArray),102,160):=⟨_,nodeC_length nd0_ok _,info_node⟩
 obtain ⟨Y,hY,hYi⟩:∃ Y:List Value,Y.length=33∧(Tryz.prog.info? 189).map (fun i=>(i.zero,i.size,i.bytes))=some (some (.agg Y.toArray),33,56):=⟨_,leafC_length (by simp [z32]) _,info_nleaf⟩
 obtain ⟨q,hq⟩:∃ q,q=w.heap.size:=⟨_,rfl⟩
 obtain ⟨w1,hw1⟩:∃ x,x=w.alloc (.cells Z.toArray 90 (0,0)):=⟨_,rfl⟩
 have k1:Keeps [] w w1:=by rw [hw1];exact (Keeps.refl _ _).alloc _
 have b1:w1.heap[q]?=some (.cells Z.toArray 90 (0,0)):=by rw [hw1];exact heap_new_at hq
 obtain ⟨q3,hq3⟩:∃ q,q=w1.heap.size:=⟨_,rfl⟩
 obtain ⟨w2,hw2⟩:∃ x,x=(w1.alloc (.cells Y.toArray 189 (0,0))).setCells q3 0 C:=⟨_,rfl⟩
 have hst2:=run_store_cells (w:=w1.alloc (.cells Y.toArray 189 (0,0))) (q:=q3) (cs:=C) (heap_new_at hq3) hY hCl size_nleaf (by rw [hC];exact leafC_ones)
 rw [← hw2] at hst2
 have b2:w2.heap[q3]?=some (.cells C.toArray 189 (0,0)):=by rw [hw2];exact store_all (heap_new_at hq3) (by rw [hY,hCl])
 have k12:Keeps [] w1 w2:=by rw [hw2];exact ((Keeps.refl _ _).alloc _).setCells (.inr (by omega)) _ _
 have rk:w2.rangeAt q3 0 (key.map B):=by
  rw [hC] at b2
  exact rangeAt_part (xs:=[]) (ys:=key.map B) (zs:=[.slice va val.length vc]) b2
 have cv:w2.cell? ⟨q3,32,none⟩=some (.slice va val.length vc):=by
  rw [cell_of_row w2 q3 32 _ _ _ b2,hC]
  simp [leafC,hk]
 have hv2:=hv.keeps (k1.trans (G:=[]) k12 (by simp)) (by simp)
 obtain ⟨n,hn⟩:∃ n,n=val.length:=⟨_,rfl⟩
 rw [← hn] at cv hv2 hvl hC hvc ⊢
 have HC:=Lib.hid hC
 have HST2:=Lib.hid hst2
 have HZ:=Lib.hid hZ
 have HZI:=Lib.hid hZi
 have HYI:=Lib.hid hYi
 have HW1:=Lib.hid hw1
 have HW2:=Lib.hid hw2
 have HQ:=Lib.hid hq
 have HQ3:=Lib.hid hq3
 have HK2:=Lib.hid (k1.trans (G:=[]) k12 (by simp))
 have HB2:=Lib.hid ((k12.block q (lt_of_heap b1) (by simp)).trans b1)
 have HRK:=Lib.hid rk
 have HV2:=Lib.hid hv2
 have HKL:=Lib.hid hk
 have HN:=Lib.hid hn
 have HSK:=Lib.hid (size_key_of hk)
 clear hCl hZ hZi hY hYi hq hw1 k1 b1 hq3 hw2 hst2 b2 k12 rk hv hv2 hk hn hvm hvc hC
 rw [← HC.out]
 have hta:=as_leaf_yes
 go_enter Tryz.func100,Tryz.ntmps100
 go_upto_region 1 with (first | (refine wl_alloc rfl 90 rfl ?_;refine ⟨_,_,run_alloc _ HZI.out,?_⟩;(try simp only [Value.cells]);rw [← HW1.out,← HQ.out];try simp only [zA,zB,zC,zD,zE,zF,zG,zH]))
 go_upto_region 4 with (first | (refine wl_alloc rfl 189 rfl ?_;refine ⟨_,_,run_alloc _ HYI.out,?_⟩;(try simp only [Value.cells]);rw [← HQ3.out];try simp only [zA,zB,zC,zD,zE,zF,zG,zH]) | (refine wl_store rfl 189 (.tmp 3) (.tmp 10) rfl ?_;refine ⟨_,HST2.out,?_⟩;try simp only [zA,zB,zC,zD,zE,zF,zG,zH]))
 clear hta
 have ho0:w2.drew.ownsRow w2.heap.size 5 1 (.slice none 0 0) 0 []:=World.ownsRow_nil _ _ _ _
 refine wp_region_held_drew (S:=(fun w'=>w'.rangeAt q3 0 (key.map B)∧w'.cell? ⟨q3,32,none⟩=some (.slice va n vc))) (by kernel_rfl) ?_ (fun hHeld=>?_)
 ·exact ⟨HRK.out,cv⟩
 refine tk 0 ?_
 refine tkb 1 rfl (yieldsIf_load_mid (by rfl) 60 (.tmp 11) rfl q3 0 rfl (key.map B) _ (fun _ h=>h.1) Tryz.underlying60 rfl HSK.out) ?_
 refine tk 2 ?_
 refine tk 3 ?_
 refine ac 4 fun K hK=>?_
 refine step_append_bytes rfl (.const (.slice none 0 0)) (.tmp 14) rfl w2.heap.size (.slice none 0 0) _ _ (by rfl) ho0 _ val (by rfl) (HV2.out.keeps ((Keeps.refl [] w2).drew) (by simp)) (by have:=HN.out;omega) (Nat.le_refl _) ?_
 intro v3 w3 ho3 hg3
 have k23:Keeps [] w2 w3:=((Keeps.refl [] w2).drew).grown hg3 (fun k hk=>by simp [Value.ownBlock] at hk)
 rw [Nat.zero_add,List.nil_append] at ho3
 have hnew:∀ k,v3.ownBlock=some k→w2.heap.size≤k:=fun k hk=>(World.ownsRow.lt ho3 k hk).1
 have hO3:OwnB w3 v3 val:=ownsRow_base ho3
 obtain ⟨a3,c3,hv3⟩:=ownB_slice hO3
 rw [← HN.out] at hv3
 subst hv3
 have hb3:=(k23.block q (lt_of_heap HB2.out) (by simp)).trans HB2.out
 obtain ⟨N,hN⟩:∃ N,N=nodeC (leafN key val) (.slice a3 n c3):=⟨_,rfl⟩
 have hNl:N.length=102:=by rw [hN];exact nodeC_length ⟨rfl,rfl,HKL.out⟩ _
 have hbld:=fun wx=>run_build_leafN HKL.out a3 n c3 val wx
 rw [← hN] at hbld
 have hst3:=run_store_node hb3 HZ.out hNl (by rw [hN];exact nodeC_ones)
 have hrk3:=rangeAt_of_heap HRK.out (k23.block q3 (by rw [HQ3.out];exact Nat.lt_of_lt_of_le (Nat.lt_succ_self _) (by rw [HW2.out,size_setCells];simp)) (by simp))
 have HBLD:=Lib.hid hbld
 have HST3:=Lib.hid hst3
 have HRK3:=Lib.hid hrk3
 have HK3:=Lib.hid (HK2.out.trans (G:=[]) k23 (by simp))
 have HO3:=Lib.hid hO3
 have HNEW:=Lib.hid hnew
 have HB3:=Lib.hid hb3
 have HNN:=Lib.hid (And.intro hN hNl)
 have cv3:w3.cell? ⟨q3,32,none⟩=some (.slice va n vc):=(World.cell?_of_block (w:=w2) (w':=w3) (a:=⟨q3,32,none⟩) (k23.block q3 (by rw [HQ3.out];exact Nat.lt_of_lt_of_le (Nat.lt_succ_self _) (by rw [HW2.out,size_setCells];simp)) (by simp))).trans cv
 clear hb3 hbld hst3 hrk3 hO3 hnew hN hNl ho3 hg3 k23
 refine hK.out _ _ ?_ (fun hHeld=>?_)
 ·exact ⟨HRK3.out,cv3⟩
 clear hK K
 try simp only [zA,zB,zC,zD,zE,zF,zG,zH]
 refine tkb 5 rfl (yieldsIf_build (by rfl) 90 _ _ rfl (by simp [Act.eval]) HBLD.out) ?_
 refine ac 6 fun K hK=>?_
 (refine st_store rfl 90 (.tmp 2) (.tmp 16) rfl ?_;refine ⟨_,HST3.out,?_⟩;try simp only [zA,zB,zC,zD,zE,zF,zG,zH])
 have hqn:q≠q3:=by have:=HQ.out;have h3:=HQ3.out;have h1:=HW1.out;rw [h1] at h3;simp at h3;omega
 have k4:Keeps [q] w3 (w3.setCells q 0 N):=(Keeps.refl _ _).setCells (.inl (by simp)) _ _
 refine hK.out _ _ ?_ (fun hHeld=>?_)
 ·exact ⟨rangeAt_of_heap HRK3.out (heap_setCells_other _ _ _ (Ne.symm hqn) _ _),(World.cell?_of_block (w:=w3) (a:=⟨q3,32,none⟩) (heap_setCells_other _ _ _ (Ne.symm hqn) _ _)).trans cv3⟩
 clear hK K
 try simp only [zA,zB,zC,zD,zE,zF,zG,zH]
 refine wpAnyH_done (by kernel_rfl) ?_ _
 clear hHeld
 go_wp2_with fail
 refine bodyPost_ret (results_row (cs:=N) rfl rfl (rangeAt_all (store_all HB3.out (by rw [HZ.out,HNN.out.2]))) Tryz.underlying90 rfl (by rw [HNN.out.2];exact size_node)) rfl ⟨a3,c3,by rw [← HNN.out.1],?_,?_,?_⟩
 ·refine ownsRow_keep HO3.out (fun k hk=>k4.block k (World.ownsRow.lt HO3.out k hk).2 (fun e=>?_))
  simp at e
  subst e
  have:=HNEW.out k hk
  have:=lt_of_heap HB2.out
  omega
 ·exact fun k hk=>Nat.le_trans HK2.out.size (HNEW.out k hk)
 ·exact HK3.out.setCells (.inr (by rw [HQ.out];exact Nat.le_refl _)) _ _
open Go.RowKit
theorem built_branchN {ls rs:List UInt8} (h1:ls.length=32) (h2:rs.length=32) (lp lc rp rc:Nat) (L R C1 C2:Int) (e1:L=lp) (e2:R=rp) (e3:C1=lc) (e4:C2=rc) :
  Tryz.prog.built 90 [(0,.int .i64 2),(1,.int .i64 L),(2,.int .i64 R),(3,.int .i64 C1),(4,.int .i64 C2),(5,.agg (ls.map B).toArray),(6,.agg (rs.map B).toArray)]=some (nodeC (branchN lp lc ls rp rc rs) (.slice none 0 0)).toArray:=by
 subst e1 e2 e3 e4
 match ls,h1 with
 | [k0,k1,k2,k3,k4,k5,k6,k7,k8,k9,k10,k11,k12,k13,k14,k15,k16,k17,k18,k19,k20,k21,k22,k23,k24,k25,k26,k27,k28,k29,k30,k31],_ =>
  match rs,h2 with
  | [j0,j1,j2,j3,j4,j5,j6,j7,j8,j9,j10,j11,j12,j13,j14,j15,j16,j17,j18,j19,j20,j21,j22,j23,j24,j25,j26,j27,j28,j29,j30,j31],_ =>
   show _=_
   kernel_rfl
theorem run_build_branchN {ls rs:List UInt8} (h1:ls.length=32) (h2:rs.length=32) (lp lc rp rc:Nat) (w:World) :
  (Instr.build 90 #[(0,.int .i64 2),(1,.int .i64 lp),(2,.int .i64 rp),(3,.int .i64 lc),(4,.int .i64 rc),(5,.agg (ls.map B).toArray),(6,.agg (rs.map B).toArray)]).run Tryz.prog w=.ok (.agg (nodeC (branchN lp lc ls rp rc rs) (.slice none 0 0)).toArray) w :=
 run_build w _ _ _ (built_branchN h1 h2 lp lc rp rc _ _ _ _ rfl rfl rfl rfl)
theorem child_range {w:World} {q:Nat} {p c:Int} {s:List UInt8} (h:w.heap[q]?=some (.cells (childC p c s).toArray 192 (0,0))):w.rangeAt q 2 (s.map B):=by
 have:=rangeAt_part (w:=w) (b:=q) (xs:=[Value.int .i64 p,.int .i64 c]) (ys:=s.map B) (zs:=[]) (t:=192) (fr:=(0,0)) (by simpa [childC] using h)
 simpa using this
set_option maxRecDepth 100000 in
set_option maxHeartbeats 6400000 in
theorem nodeOf_branch {w:World} {lp lc rp rc:Nat} {ls rs:List UInt8} (hl:ls.length=32) (hr:rs.length=32) :
  Calls Tryz.prog 100 #[.iface 194 (.agg (branchC lp lc ls rp rc rs).toArray)] w fun e w'=>e=.returned (.agg (nodeC (branchN lp lc ls rp rc rs) (.slice none 0 0)).toArray)∧Keeps [] w w':=by
 obtain ⟨C,hC⟩:∃ C,C=branchC lp lc ls rp rc rs:=⟨_,rfl⟩
 obtain ⟨CL,hCL⟩:∃ C,C=childC lp lc ls:=⟨_,rfl⟩
 obtain ⟨CR,hCR⟩:∃ C,C=childC rp rc rs:=⟨_,rfl⟩
 obtain ⟨N,hN⟩:∃ N,N=nodeC (branchN lp lc ls rp rc rs) (.slice none 0 0):=⟨_,rfl⟩
 have hNl:N.length=102:=by rw [hN];exact nodeC_length ⟨hl,hr,rfl⟩ _
 have hCl:C.length=68:=by rw [hC];exact branchC_length hl hr _ _ _ _
 obtain ⟨Z,hZ,hZi⟩:∃ Z:List Value,Z.length=102∧(Tryz.prog.info? 90).map (fun i=>(i.zero,i.size,i.bytes))=some (some (.agg Z.toArray),102,160):=⟨_,nodeC_length nd0_ok _,info_node⟩
 obtain ⟨X,hX,hXi⟩:∃ Y:List Value,Y.length=68∧(Tryz.prog.info? 194).map (fun i=>(i.zero,i.size,i.bytes))=some (some (.agg Y.toArray),68,96):=⟨_,branchC_length (by simp [z32]) (by simp [z32]) _ _ _ _,info_nbranch⟩
 obtain ⟨Y,hY,hYi⟩:∃ Y:List Value,Y.length=34∧(Tryz.prog.info? 192).map (fun i=>(i.zero,i.size,i.bytes))=some (some (.agg Y.toArray),34,48):=⟨_,childC_length (by simp [z32]) _ _,info_nchild⟩
 obtain ⟨q,hq⟩:∃ q,q=w.heap.size:=⟨_,rfl⟩
 obtain ⟨w1,hw1⟩:∃ x,x=w.alloc (.cells Z.toArray 90 (0,0)):=⟨_,rfl⟩
 have k1:Keeps [] w w1:=by rw [hw1];exact (Keeps.refl _ _).alloc _
 have b1:w1.heap[q]?=some (.cells Z.toArray 90 (0,0)):=by rw [hw1];exact heap_new_at hq
 obtain ⟨q4,hq4⟩:∃ q,q=w1.heap.size:=⟨_,rfl⟩
 obtain ⟨w2,hw2⟩:∃ x,x=(w1.alloc (.cells X.toArray 194 (0,0))).setCells q4 0 C:=⟨_,rfl⟩
 have hst2:=run_store_cells (w:=w1.alloc (.cells X.toArray 194 (0,0))) (q:=q4) (cs:=C) (heap_new_at hq4) hX hCl size_nbranch (by rw [hC];exact branchC_ones)
 rw [← hw2] at hst2
 have b2:w2.heap[q4]?=some (.cells C.toArray 194 (0,0)):=by rw [hw2];exact store_all (heap_new_at hq4) (by rw [hX,hCl])
 have k12:Keeps [] w1 w2:=by rw [hw2];exact ((Keeps.refl _ _).alloc _).setCells (.inr (by omega)) _ _
 have hbc:=branch_cells hl (hC ▸ b2)
 rw [← hCL,← hCR] at hbc
 have HST2:=Lib.hid hst2
 have HZ:=Lib.hid hZ
 have HZI:=Lib.hid hZi
 have HXI:=Lib.hid hXi
 have HY:=Lib.hid hY
 have HYI:=Lib.hid hYi
 have HW1:=Lib.hid hw1
 have HQ:=Lib.hid hq
 have HQ4:=Lib.hid hq4
 have HK2:=Lib.hid (k1.trans (G:=[]) k12 (by simp))
 have HB2:=Lib.hid ((k12.block q (lt_of_heap b1) (by simp)).trans b1)
 have HRL:=Lib.hid hbc.2.1
 have HRR:=Lib.hid hbc.2.2
 have HLEN:=Lib.hid (show CL.length=34∧CR.length=34 from ⟨by rw [hCL];exact childC_length hl _ _,by rw [hCR];exact childC_length hr _ _⟩)
 have HCL:=Lib.hid hCL
 have HCR:=Lib.hid hCR
 have HSL:=Lib.hid (show (Tryz.prog.info? 192).map (·.size)=some CL.length by rw [HLEN.out.1];exact size_nchild)
 have HSR:=Lib.hid (show (Tryz.prog.info? 192).map (·.size)=some CR.length by rw [HLEN.out.2];exact size_nchild)
 have hbld:=fun wx=>run_build_branchN hl hr lp lc rp rc wx
 rw [← hN] at hbld
 have HBLD:=Lib.hid hbld
 have HNL:=Lib.hid (And.intro hNl (show ∀ v∈N,v.oneCell'=true by rw [hN];exact nodeC_ones))
 have HDL:=Lib.hid (dg_size_of hl)
 have HDR:=Lib.hid (dg_size_of hr)
 have h3lt:q4 < w2.heap.size:=lt_of_heap b2
 rw [← hC,← hN]
 clear hX hZ hY hCl hNl hZi hXi hYi hw1 hq hq4 k1 b1 hw2 hst2 b2 k12 hbc hCL hCR hbld hC hN hl hr
 have hta:=as_leaf_no
 have htb:=as_branch_yes
 go_enter Tryz.func100,Tryz.ntmps100
 go_upto_region 1 with (first | (refine wl_alloc rfl 90 rfl ?_;refine ⟨_,_,run_alloc _ HZI.out,?_⟩;(try simp only [Value.cells]);rw [← HW1.out,← HQ.out];try simp only [zA,zB,zC,zD,zE,zF,zG,zH]))
 go_upto_region 7 with (first | (refine wl_alloc rfl 194 rfl ?_;refine ⟨_,_,run_alloc _ HXI.out,?_⟩;(try simp only [Value.cells]);rw [← HQ4.out];try simp only [zA,zB,zC,zD,zE,zF,zG,zH]) | (refine wl_store rfl 194 (.tmp 4) (.tmp 19) rfl ?_;refine ⟨_,HST2.out,?_⟩;try simp only [zA,zB,zC,zD,zE,zF,zG,zH]))
 clear hta htb
 go_cut [5,6] from 20 to 23 (fun s5 s6 wx=>∃ q5 q6:Nat,s5=.pointer (some ⟨q5,0,none⟩)∧s6=.pointer (some ⟨q6,0,none⟩)∧wx.heap[q5]?=some (.cells CL.toArray 192 (0,0))∧wx.heap[q6]?=some (.cells CR.toArray 192 (0,0))∧Keeps [] w2 wx)
 case first =>
  refine wp_region_held_drew (S:=(fun w'=>w'.rangeAt q4 0 CL∧w'.rangeAt q4 34 CR)) (by kernel_rfl) ?_ (fun hHeld=>?_)
  ·exact ⟨HRL.out,HRR.out⟩
  refine tk 0 ?_
  refine tkb 1 rfl (yieldsIf_load_mid (by rfl) 192 (.tmp 20) rfl q4 0 rfl CL _ (fun _ h=>h.1) Tryz.underlying192 rfl HSL.out) ?_
  refine tk 2 ?_
  refine tkb 3 rfl (yieldsIf_load_mid (by rfl) 192 (.tmp 22) rfl q4 34 rfl CR _ (fun _ h=>h.2) Tryz.underlying192 rfl HSR.out) ?_
  refine wpAnyH_ready (rs:=[4,5]) (by kernel_rfl) (by simp) ?_
  refine AllReadyH.cons rfl (fun K hK=>?_) (AllReadyH.cons rfl (fun K hK=>?_) AllReadyH.nil)
  ·(refine st_alloc rfl 192 rfl ?_;refine ⟨_,_,run_alloc _ HYI.out,?_⟩;(try simp only [Value.cells]))
   refine hK.out _ _ ?_ (fun hHeld=>?_)
   ·exact ⟨rangeAt_of_heap HRL.out (heap_old_at h3lt),rangeAt_of_heap HRR.out (heap_old_at h3lt)⟩
   clear hK K
   try simp only [zA,zB,zC,zD,zE,zF,zG,zH]
   refine ac 5 fun K hK=>?_
   (refine st_alloc rfl 192 rfl ?_;refine ⟨_,_,run_alloc _ HYI.out,?_⟩;(try simp only [Value.cells]))
   obtain ⟨q5,hq5⟩:∃ x,x=w2.heap.size:=⟨_,rfl⟩
   obtain ⟨q6,hq6⟩:∃ x,x=w2.heap.size+1:=⟨_,rfl⟩
   obtain ⟨w3,hw3⟩:∃ x,x=(w2.drew.alloc (.cells Y.toArray 192 (0,0))).alloc (.cells Y.toArray 192 (0,0)):=⟨_,rfl⟩
   have k23:Keeps [] w2 w3:=by rw [hw3];exact (((Keeps.refl [] w2).drew).alloc _).alloc _
   have bq5:w3.heap[q5]?=some (.cells Y.toArray 192 (0,0)):=by rw [hw3];exact (heap_old_at (by simp;omega)).trans (heap_new_at hq5)
   have bq6:w3.heap[q6]?=some (.cells Y.toArray 192 (0,0)):=by rw [hw3];exact heap_new_at (by simp;exact hq6)
   rw [show (w2.drew.alloc (.cells Y.toArray 192 (0,0))).heap.size=q6 by rw [hq6];simp,show w2.drew.heap.size=q5 from hq5.symm]
   rw [← hw3]
   have hne:q5≠q6:=by omega
   have hge:w2.heap.size≤q5∧w2.heap.size≤q6:=by omega
   have hst5:=run_store_cells (cs:=CL) bq5 HY.out HLEN.out.1 size_nchild (by rw [HCL.out];exact childC_ones)
   obtain ⟨w4,hw4⟩:∃ x,x=w3.setCells q5 0 CL:=⟨_,rfl⟩
   have k34:Keeps [q5] w3 w4:=by rw [hw4];exact (Keeps.refl _ _).setCells (.inl (by simp)) _ _
   rw [← hw4] at hst5
   have b54:w4.heap[q5]?=some (.cells CL.toArray 192 (0,0)):=by rw [hw4];exact store_all bq5 (by rw [HY.out,HLEN.out.1])
   have b64:=(k34.block q6 (lt_of_heap bq6) (by simp;omega)).trans bq6
   have hst6:=run_store_cells (cs:=CR) b64 HY.out HLEN.out.2 size_nchild (by rw [HCR.out];exact childC_ones)
   obtain ⟨w5,hw5⟩:∃ x,x=w4.setCells q6 0 CR:=⟨_,rfl⟩
   have k45:Keeps [q6] w4 w5:=by rw [hw5];exact (Keeps.refl _ _).setCells (.inl (by simp)) _ _
   rw [← hw5] at hst6
   have b65:w5.heap[q6]?=some (.cells CR.toArray 192 (0,0)):=by rw [hw5];exact store_all b64 (by rw [HY.out,HLEN.out.2])
   have b55:=(k45.block q5 (lt_of_heap b54) (by simp;omega)).trans b54
   have k24:Keeps [] w2 w4:=k23.trans (G:=[q5]) k34 (fun k hk=>.inr (by simp at hk;omega))
   have k25:Keeps [] w2 w5:=k24.trans (G:=[q6]) k45 (fun k hk=>.inr (by simp at hk;omega))
   have HST5:=Lib.hid hst5
   have HST6:=Lib.hid hst6
   have HEND:=Lib.hid (And.intro b55 (And.intro b65 k25))
   have HK3:=Lib.hid (And.intro k23 k24)
   clear hq5 hq6 hw3 k23 bq5 bq6 hge hst5 hw4 k34 b54 b64 hst6 hw5 k45 b65 b55 k24 k25
   refine hK.out _ _ ?_ (fun hHeld=>?_)
   ·exact ⟨rangeAt_of_heap HRL.out (HK3.out.1.block q4 h3lt (by simp)),rangeAt_of_heap HRR.out (HK3.out.1.block q4 h3lt (by simp))⟩
   clear hK K
   try simp only [zA,zB,zC,zD,zE,zF,zG,zH]
   refine ac 6 fun K hK=>?_
   (refine st_store rfl 192 (.tmp 5) (.tmp 21) rfl ?_;refine ⟨_,HST5.out,?_⟩;try simp only [zA,zB,zC,zD,zE,zF,zG,zH])
   refine hK.out _ _ ?_ (fun hHeld=>?_)
   ·exact ⟨rangeAt_of_heap HRL.out (HK3.out.2.block q4 h3lt (by simp)),rangeAt_of_heap HRR.out (HK3.out.2.block q4 h3lt (by simp))⟩
   clear hK K
   try simp only [zA,zB,zC,zD,zE,zF,zG,zH]
   refine ac 7 fun K hK=>?_
   (refine st_store rfl 192 (.tmp 6) (.tmp 23) rfl ?_;refine ⟨_,HST6.out,?_⟩;try simp only [zA,zB,zC,zD,zE,zF,zG,zH])
   refine hK.out _ _ ?_ (fun hHeld=>?_)
   ·exact ⟨rangeAt_of_heap HRL.out (HEND.out.2.2.block q4 h3lt (by simp)),rangeAt_of_heap HRR.out (HEND.out.2.2.block q4 h3lt (by simp))⟩
   clear hK K
   try simp only [zA,zB,zC,zD,zE,zF,zG,zH]
   refine wpAnyH_done (by kernel_rfl) ?_ _
   go_wp2_with fail
   go_meet
   case rel=>exact ⟨q5,q6,rfl,rfl,HEND.out⟩
  ·(refine st_alloc rfl 192 rfl ?_;refine ⟨_,_,run_alloc _ HYI.out,?_⟩;(try simp only [Value.cells]))
   refine hK.out _ _ ?_ (fun hHeld=>?_)
   ·exact ⟨rangeAt_of_heap HRL.out (heap_old_at h3lt),rangeAt_of_heap HRR.out (heap_old_at h3lt)⟩
   clear hK K
   try simp only [zA,zB,zC,zD,zE,zF,zG,zH]
   refine ac 4 fun K hK=>?_
   (refine st_alloc rfl 192 rfl ?_;refine ⟨_,_,run_alloc _ HYI.out,?_⟩;(try simp only [Value.cells]))
   obtain ⟨q6,hq6⟩:∃ x,x=w2.heap.size:=⟨_,rfl⟩
   obtain ⟨q5,hq5⟩:∃ x,x=w2.heap.size+1:=⟨_,rfl⟩
   obtain ⟨w3,hw3⟩:∃ x,x=(w2.drew.alloc (.cells Y.toArray 192 (0,0))).alloc (.cells Y.toArray 192 (0,0)):=⟨_,rfl⟩
   have k23:Keeps [] w2 w3:=by rw [hw3];exact (((Keeps.refl [] w2).drew).alloc _).alloc _
   have bq6:w3.heap[q6]?=some (.cells Y.toArray 192 (0,0)):=by rw [hw3];exact (heap_old_at (by simp;omega)).trans (heap_new_at hq6)
   have bq5:w3.heap[q5]?=some (.cells Y.toArray 192 (0,0)):=by rw [hw3];exact heap_new_at (by simp;exact hq5)
   rw [show (w2.drew.alloc (.cells Y.toArray 192 (0,0))).heap.size=q5 by rw [hq5];simp,show w2.drew.heap.size=q6 from hq6.symm]
   rw [← hw3]
   have hne:q5≠q6:=by omega
   have hge:w2.heap.size≤q5∧w2.heap.size≤q6:=by omega
   have hst5:=run_store_cells (cs:=CL) bq5 HY.out HLEN.out.1 size_nchild (by rw [HCL.out];exact childC_ones)
   obtain ⟨w4,hw4⟩:∃ x,x=w3.setCells q5 0 CL:=⟨_,rfl⟩
   have k34:Keeps [q5] w3 w4:=by rw [hw4];exact (Keeps.refl _ _).setCells (.inl (by simp)) _ _
   rw [← hw4] at hst5
   have b54:w4.heap[q5]?=some (.cells CL.toArray 192 (0,0)):=by rw [hw4];exact store_all bq5 (by rw [HY.out,HLEN.out.1])
   have b64:=(k34.block q6 (lt_of_heap bq6) (by simp;omega)).trans bq6
   have hst6:=run_store_cells (cs:=CR) b64 HY.out HLEN.out.2 size_nchild (by rw [HCR.out];exact childC_ones)
   obtain ⟨w5,hw5⟩:∃ x,x=w4.setCells q6 0 CR:=⟨_,rfl⟩
   have k45:Keeps [q6] w4 w5:=by rw [hw5];exact (Keeps.refl _ _).setCells (.inl (by simp)) _ _
   rw [← hw5] at hst6
   have b65:w5.heap[q6]?=some (.cells CR.toArray 192 (0,0)):=by rw [hw5];exact store_all b64 (by rw [HY.out,HLEN.out.2])
   have b55:=(k45.block q5 (lt_of_heap b54) (by simp;omega)).trans b54
   have k24:Keeps [] w2 w4:=k23.trans (G:=[q5]) k34 (fun k hk=>.inr (by simp at hk;omega))
   have k25:Keeps [] w2 w5:=k24.trans (G:=[q6]) k45 (fun k hk=>.inr (by simp at hk;omega))
   have HST5:=Lib.hid hst5
   have HST6:=Lib.hid hst6
   have HEND:=Lib.hid (And.intro b55 (And.intro b65 k25))
   have HK3:=Lib.hid (And.intro k23 k24)
   clear hq5 hq6 hw3 k23 bq5 bq6 hge hst5 hw4 k34 b54 b64 hst6 hw5 k45 b65 b55 k24 k25
   refine hK.out _ _ ?_ (fun hHeld=>?_)
   ·exact ⟨rangeAt_of_heap HRL.out (HK3.out.1.block q4 h3lt (by simp)),rangeAt_of_heap HRR.out (HK3.out.1.block q4 h3lt (by simp))⟩
   clear hK K
   try simp only [zA,zB,zC,zD,zE,zF,zG,zH]
   refine ac 6 fun K hK=>?_
   (refine st_store rfl 192 (.tmp 5) (.tmp 21) rfl ?_;refine ⟨_,HST5.out,?_⟩;try simp only [zA,zB,zC,zD,zE,zF,zG,zH])
   refine hK.out _ _ ?_ (fun hHeld=>?_)
   ·exact ⟨rangeAt_of_heap HRL.out (HK3.out.2.block q4 h3lt (by simp)),rangeAt_of_heap HRR.out (HK3.out.2.block q4 h3lt (by simp))⟩
   clear hK K
   try simp only [zA,zB,zC,zD,zE,zF,zG,zH]
   refine ac 7 fun K hK=>?_
   (refine st_store rfl 192 (.tmp 6) (.tmp 23) rfl ?_;refine ⟨_,HST6.out,?_⟩;try simp only [zA,zB,zC,zD,zE,zF,zG,zH])
   refine hK.out _ _ ?_ (fun hHeld=>?_)
   ·exact ⟨rangeAt_of_heap HRL.out (HEND.out.2.2.block q4 h3lt (by simp)),rangeAt_of_heap HRR.out (HEND.out.2.2.block q4 h3lt (by simp))⟩
   clear hK K
   try simp only [zA,zB,zC,zD,zE,zF,zG,zH]
   refine wpAnyH_done (by kernel_rfl) ?_ _
   go_wp2_with fail
   go_meet
   case rel=>exact ⟨q5,q6,rfl,rfl,HEND.out⟩
 case rest =>
  obtain ⟨q5,q6,rfl,rfl,hb5,hb6,hk⟩:=hcut
  have hbq:=(hk.block q (lt_of_heap HB2.out) (by simp)).trans HB2.out
  have hb5':=hb5
  have hb6':=hb6
  rw [HCL.out] at hb5'
  rw [HCR.out] at hb6'
  obtain ⟨c50,c51⟩:=child_cells hb5'
  obtain ⟨c60,c61⟩:=child_cells hb6'
  have HR5:=Lib.hid (child_range hb5')
  have HR6:=Lib.hid (child_range hb6')
  have HST:=Lib.hid (run_store_node hbq HZ.out HNL.out.1 HNL.out.2)
  have HBQ:=Lib.hid hbq
  have HKC:=Lib.hid (HK2.out.trans (G:=[]) hk (by simp))
  clear hb5 hb6 hb5' hb6' hbq hk
  go_wp2_with (first | (refine wpList_load_mid rfl 88 (.tmp 32) rfl q5 2 (by rfl) (ls.map B) _ HR5.out Tryz.underlying88 rfl HDL.out ?_;try simp only [zA,zB,zC,zD,zE,zF,zG,zH]) | (refine wpList_load_mid rfl 88 (.tmp 34) rfl q6 2 (by rfl) (rs.map B) _ HR6.out Tryz.underlying88 rfl HDR.out ?_;try simp only [zA,zB,zC,zD,zE,zF,zG,zH]) | (refine wl_build rfl 90 #[(0,.const (.int .i64 2)),(1,.tmp 25),(2,.tmp 27),(3,.tmp 29),(4,.tmp 31),(5,.tmp 33),(6,.tmp 35)] #[(0,.int .i64 2),(1,.int .i64 lp),(2,.int .i64 rp),(3,.int .i64 lc),(4,.int .i64 rc),(5,.agg (ls.map B).toArray),(6,.agg (rs.map B).toArray)] rfl (by simp [Act.eval]) ?_;refine ⟨_,_,HBLD.out _,?_⟩;try simp only [zA,zB,zC,zD,zE,zF,zG,zH]) | (refine wl_store rfl 90 (.tmp 2) (.tmp 36) rfl ?_;refine ⟨_,HST.out,?_⟩;try simp only [zA,zB,zC,zD,zE,zF,zG,zH]))
  refine bodyPost_ret (results_row (cs:=N) rfl rfl (rangeAt_all (store_all HBQ.out (by rw [HZ.out,HNL.out.1]))) Tryz.underlying90 rfl (by rw [HNL.out.1];exact size_node)) rfl ⟨rfl,?_⟩
  exact HKC.out.setCells (.inr (by rw [HQ.out];exact Nat.le_refl _)) _ _
open Go.RowKit
def decodeL (kind:Int) (l:List UInt8):Option Nde :=
 if kind=1∧32≤l.length then (if l.length≤160 then some (leafN (l.take 32) (l.drop 32)) else none)
 else if kind=2∧l.length=80 then
  (if branchOk (le4 l 0) (le4 l 8) ((l.drop 16).take 32) (le4 l 4) (le4 l 12) ((l.drop 48).take 32)=true then some (branchN (le4 l 0) (le4 l 8) ((l.drop 16).take 32) (le4 l 4) (le4 l 12) ((l.drop 48).take 32)) else none)
 else none
theorem decodeL_ok {kind:Int} {l:List UInt8} {n:Nde} (h:decodeL kind l=some n):n.ok:=by
 unfold decodeL at h
 split at h
 ·rename_i h1
  split at h
  ·cases h
   exact ⟨rfl,rfl,by show (l.take 32).length=32;rw [List.length_take];omega⟩
  ·cases h
 ·split at h
  ·rename_i h1
   split at h
   ·cases h
    exact ⟨by show ((l.drop 16).take 32).length=32;rw [List.length_take,List.length_drop];omega,by show ((l.drop 48).take 32).length=32;rw [List.length_take,List.length_drop];omega,rfl⟩
   ·cases h
  ·cases h
set_option maxRecDepth 100000 in
theorem read_none {w:World} {kind:Int} {a:Option Addr} {n c:Nat} (h1:¬ (kind=1∧32≤n)) (h2:¬ (kind=2∧n=80)) :
  Calls Tryz.prog 99 #[.int .i64 kind,.slice a n c] w fun e w'=>e=.returned .nilIface∧w=w':=by
 by_cases k1:kind=1
 ·subst k1
  have hn:¬ (32:Int)≤(n:Int):=by omega
  clear h1 h2
  go_enter Tryz.func99,Tryz.ntmps99
  go_wp2_with fail
  go_ret
  exact ⟨rfl,rfl⟩
 ·by_cases k2:kind=2
  ·subst k2
   have hn:¬ (n:Int)=80:=by omega
   clear h1 h2 k1
   go_enter Tryz.func99,Tryz.ntmps99
   go_wp2_with fail
   go_ret
   exact ⟨rfl,rfl⟩
  ·clear h1 h2
   go_enter Tryz.func99,Tryz.ntmps99
   go_wp2_with fail
   go_ret
   exact ⟨rfl,rfl⟩
theorem meth_leaf (d:Nat) (v:Value) (w:World):(method (d+1) 189 v "ledger/node.stands").run Tryz.prog w=.ok (139,v) w:=by kernel_rfl
theorem meth_branch (d:Nat) (v:Value) (w:World):(method (d+1) 194 v "ledger/node.stands").run Tryz.prog w=.ok (142,v) w:=by kernel_rfl
theorem decode_nil {w:World} {kind:Int} {v:Value} (hr:∀ wx,Keeps [] w wx→Calls Tryz.prog 99 #[.int .i64 kind,v] wx fun e w'=>e=.returned .nilIface∧wx=w') :
  Calls Tryz.prog 80 #[.int .i64 kind,v] w fun e w'=>e=.returned (.tuple #[.agg (nodeC nd0 (.slice none 0 0)).toArray,.int .i64 90])∧Keeps [] w w':=by
 obtain ⟨Z,hZ,hZi,hZ1,hZb⟩:∃ Z:List Value,Z.length=102∧(Tryz.prog.info? 90).map (fun i=>(i.zero,i.size,i.bytes))=some (some (.agg Z.toArray),102,160)∧(∀ v∈Z,v.oneCell'=true)∧Z=nodeC nd0 (.slice none 0 0):=⟨_,nodeC_length nd0_ok _,info_node,nodeC_ones,rfl⟩
 have hbld:∀ w,(Instr.build 90 #[]).run Tryz.prog w=.ok (.agg Z.toArray) w:=fun w=>by rw [hZb];exact run_build_node0 w
 rw [← hZb]
 obtain ⟨q,hq⟩:∃ q,q=w.heap.size:=⟨_,rfl⟩
 obtain ⟨w1,hw1⟩:∃ x,x=w.alloc (.cells Z.toArray 90 (0,0)):=⟨_,rfl⟩
 have k1:Keeps [] w w1:=by rw [hw1];exact (Keeps.refl _ _).alloc _
 have b1:w1.heap[q]?=some (.cells Z.toArray 90 (0,0)):=by rw [hw1];exact heap_new_at hq
 have HBL:=Lib.hid hbld
 have HZI:=Lib.hid hZi
 have HW1:=Lib.hid hw1
 have HQ:=Lib.hid hq
 have HK1:=Lib.hid k1
 have HB1:=Lib.hid b1
 have HZ:=Lib.hid (And.intro hZ hZ1)
 have HSZ:=Lib.hid (show (Tryz.prog.info? 90).map (·.size)=some Z.length by rw [hZ];exact size_node)
 have HRD:=Lib.hid (hr w1 k1)
 clear hbld hZi hw1 hq k1 b1 hZ hZ1 hZb hr
 go_enter Tryz.func80,Tryz.ntmps80
 go_upto_region 1 with (first | (refine wl_alloc rfl 90 rfl ?_;refine ⟨_,_,run_alloc _ HZI.out,?_⟩;try simp only [zA,zB,zC,zD,zE,zF,zG,zH]))
 try simp only [Value.cells]
 rw [← HW1.out,← HQ.out]
 go_wp2_with (first | (go_at_call 99;refine HRD.out.mono ?_;rintro e w2 ⟨rfl,rfl⟩) | (refine wl_build rfl 90 #[] #[] rfl (by simp [Act.eval]) ?_;refine ⟨_,_,HBL.out _,?_⟩;try simp only [zA,zB,zC,zD,zE,zF,zG,zH]) | (refine wl_store rfl 90 (.tmp 4) (.tmp 17) rfl ?_;refine ⟨_,run_store_node HB1.out HZ.out.1 HZ.out.1 HZ.out.2,?_⟩;try simp only [zA,zB,zC,zD,zE,zF,zG,zH]))
 refine bodyPost_ret (results_row2 (cs:=Z) rfl rfl rfl (rangeAt_all (store_all HB1.out rfl)) Tryz.underlying90 rfl HSZ.out) rfl ⟨rfl,?_⟩
 exact HK1.out.setCells (.inr (by rw [HQ.out];exact Nat.le_refl _)) _ _
set_option maxRecDepth 100000 in
set_option maxHeartbeats 1600000 in
theorem decode_leaf_bad {w:World} {kind:Int} {v:Value} {X:Array Value} (hr:∀ wx,Keeps [] w wx→Calls Tryz.prog 99 #[.int .i64 kind,v] wx fun e w'=>e=.returned (.iface 189 (.agg X))∧Keeps [] wx w')
  (hs:∀ wx,Calls Tryz.prog 139 #[.agg X] wx fun e w'=>e=.returned (.bool false)∧Keeps [] wx w') :
  Calls Tryz.prog 80 #[.int .i64 kind,v] w fun e w'=>e=.returned (.tuple #[.agg (nodeC nd0 (.slice none 0 0)).toArray,.int .i64 90])∧Keeps [] w w':=by
 obtain ⟨Z,hZ,hZi,hZ1,hZb⟩:∃ Z:List Value,Z.length=102∧(Tryz.prog.info? 90).map (fun i=>(i.zero,i.size,i.bytes))=some (some (.agg Z.toArray),102,160)∧(∀ v∈Z,v.oneCell'=true)∧Z=nodeC nd0 (.slice none 0 0):=⟨_,nodeC_length nd0_ok _,info_node,nodeC_ones,rfl⟩
 have hbld:∀ w,(Instr.build 90 #[]).run Tryz.prog w=.ok (.agg Z.toArray) w:=fun w=>by rw [hZb];exact run_build_node0 w
 rw [← hZb]
 obtain ⟨q,hq⟩:∃ q,q=w.heap.size:=⟨_,rfl⟩
 obtain ⟨w1,hw1⟩:∃ x,x=w.alloc (.cells Z.toArray 90 (0,0)):=⟨_,rfl⟩
 have k1:Keeps [] w w1:=by rw [hw1];exact (Keeps.refl _ _).alloc _
 have b1:w1.heap[q]?=some (.cells Z.toArray 90 (0,0)):=by rw [hw1];exact heap_new_at hq
 have HBL:=Lib.hid hbld
 have HZI:=Lib.hid hZi
 have HW1:=Lib.hid hw1
 have HQ:=Lib.hid hq
 have HK1:=Lib.hid k1
 have HB1:=Lib.hid b1
 have HZ:=Lib.hid (And.intro hZ hZ1)
 have HSZ:=Lib.hid (show (Tryz.prog.info? 90).map (·.size)=some Z.length by rw [hZ];exact size_node)
 have HRD:=Lib.hid (hr w1 k1)
 have HSTD:=Lib.hid hs
 clear hbld hZi hw1 hq k1 b1 hZ hZ1 hZb hr hs
 have hmt:=meth_leaf
 go_enter Tryz.func80,Tryz.ntmps80
 go_upto_region 1 with (first | (refine wl_alloc rfl 90 rfl ?_;refine ⟨_,_,run_alloc _ HZI.out,?_⟩;try simp only [zA,zB,zC,zD,zE,zF,zG,zH]))
 try simp only [Value.cells]
 rw [← HW1.out,← HQ.out]
 go_upto_region 3 with (first | (go_at_call 99;refine HRD.out.mono ?_;rintro e w2 ⟨rfl,hk2⟩) | (go_at_call 139;refine (HSTD.out _).mono ?_;rintro e w3 ⟨rfl,hk3⟩))
 have HB3:=Lib.hid (((hk2.trans (G:=[]) hk3 (by simp)).block q (lt_of_heap HB1.out) (by simp)).trans HB1.out)
 have HK3:=Lib.hid ((HK1.out.trans (G:=[]) hk2 (by simp)).trans (G:=[]) hk3 (by simp))
 clear hk2 hk3
 go_wp2_with (first | (refine wl_build rfl 90 #[] #[] rfl (by simp [Act.eval]) ?_;refine ⟨_,_,HBL.out _,?_⟩;try simp only [zA,zB,zC,zD,zE,zF,zG,zH]) | (refine wl_store rfl 90 (.tmp 4) (.tmp 17) rfl ?_;refine ⟨_,run_store_node HB3.out HZ.out.1 HZ.out.1 HZ.out.2,?_⟩;try simp only [zA,zB,zC,zD,zE,zF,zG,zH]))
 refine bodyPost_ret (results_row2 (cs:=Z) rfl rfl rfl (rangeAt_all (store_all HB3.out rfl)) Tryz.underlying90 rfl HSZ.out) rfl ⟨rfl,?_⟩
 exact HK3.out.setCells (.inr (by rw [HQ.out];exact Nat.le_refl _)) _ _
set_option maxRecDepth 100000 in
set_option maxHeartbeats 1600000 in
theorem decode_branch_bad {w:World} {kind:Int} {v:Value} {X:Array Value} (hr:∀ wx,Keeps [] w wx→Calls Tryz.prog 99 #[.int .i64 kind,v] wx fun e w'=>e=.returned (.iface 194 (.agg X))∧Keeps [] wx w')
  (hs:∀ wx,Calls Tryz.prog 142 #[.agg X] wx fun e w'=>e=.returned (.bool false)∧Keeps [] wx w') :
  Calls Tryz.prog 80 #[.int .i64 kind,v] w fun e w'=>e=.returned (.tuple #[.agg (nodeC nd0 (.slice none 0 0)).toArray,.int .i64 90])∧Keeps [] w w':=by
 obtain ⟨Z,hZ,hZi,hZ1,hZb⟩:∃ Z:List Value,Z.length=102∧(Tryz.prog.info? 90).map (fun i=>(i.zero,i.size,i.bytes))=some (some (.agg Z.toArray),102,160)∧(∀ v∈Z,v.oneCell'=true)∧Z=nodeC nd0 (.slice none 0 0):=⟨_,nodeC_length nd0_ok _,info_node,nodeC_ones,rfl⟩
 have hbld:∀ w,(Instr.build 90 #[]).run Tryz.prog w=.ok (.agg Z.toArray) w:=fun w=>by rw [hZb];exact run_build_node0 w
 rw [← hZb]
 obtain ⟨q,hq⟩:∃ q,q=w.heap.size:=⟨_,rfl⟩
 obtain ⟨w1,hw1⟩:∃ x,x=w.alloc (.cells Z.toArray 90 (0,0)):=⟨_,rfl⟩
 have k1:Keeps [] w w1:=by rw [hw1];exact (Keeps.refl _ _).alloc _
 have b1:w1.heap[q]?=some (.cells Z.toArray 90 (0,0)):=by rw [hw1];exact heap_new_at hq
 have HBL:=Lib.hid hbld
 have HZI:=Lib.hid hZi
 have HW1:=Lib.hid hw1
 have HQ:=Lib.hid hq
 have HK1:=Lib.hid k1
 have HB1:=Lib.hid b1
 have HZ:=Lib.hid (And.intro hZ hZ1)
 have HSZ:=Lib.hid (show (Tryz.prog.info? 90).map (·.size)=some Z.length by rw [hZ];exact size_node)
 have HRD:=Lib.hid (hr w1 k1)
 have HSTD:=Lib.hid hs
 clear hbld hZi hw1 hq k1 b1 hZ hZ1 hZb hr hs
 have hmt:=meth_branch
 go_enter Tryz.func80,Tryz.ntmps80
 go_upto_region 1 with (first | (refine wl_alloc rfl 90 rfl ?_;refine ⟨_,_,run_alloc _ HZI.out,?_⟩;try simp only [zA,zB,zC,zD,zE,zF,zG,zH]))
 try simp only [Value.cells]
 rw [← HW1.out,← HQ.out]
 go_upto_region 3 with (first | (go_at_call 99;refine HRD.out.mono ?_;rintro e w2 ⟨rfl,hk2⟩) | (go_at_call 142;refine (HSTD.out _).mono ?_;rintro e w3 ⟨rfl,hk3⟩))
 have HB3:=Lib.hid (((hk2.trans (G:=[]) hk3 (by simp)).block q (lt_of_heap HB1.out) (by simp)).trans HB1.out)
 have HK3:=Lib.hid ((HK1.out.trans (G:=[]) hk2 (by simp)).trans (G:=[]) hk3 (by simp))
 clear hk2 hk3
 go_wp2_with (first | (refine wl_build rfl 90 #[] #[] rfl (by simp [Act.eval]) ?_;refine ⟨_,_,HBL.out _,?_⟩;try simp only [zA,zB,zC,zD,zE,zF,zG,zH]) | (refine wl_store rfl 90 (.tmp 4) (.tmp 17) rfl ?_;refine ⟨_,run_store_node HB3.out HZ.out.1 HZ.out.1 HZ.out.2,?_⟩;try simp only [zA,zB,zC,zD,zE,zF,zG,zH]))
 refine bodyPost_ret (results_row2 (cs:=Z) rfl rfl rfl (rangeAt_all (store_all HB3.out rfl)) Tryz.underlying90 rfl HSZ.out) rfl ⟨rfl,?_⟩
 exact HK3.out.setCells (.inr (by rw [HQ.out];exact Nat.le_refl _)) _ _
set_option maxRecDepth 100000 in
set_option maxHeartbeats 1600000 in
theorem decode_leaf_good {w:World} {kind:Int} {v:Value} {X:Array Value} {nd:Nde} (hok:nd.ok) (hr:∀ wx,Keeps [] w wx→Calls Tryz.prog 99 #[.int .i64 kind,v] wx fun e w'=>e=.returned (.iface 189 (.agg X))∧Keeps [] wx w')
  (hs:∀ wx,Calls Tryz.prog 139 #[.agg X] wx fun e w'=>e=.returned (.bool true)∧Keeps [] wx w')
  (hn:∀ wx,Keeps [] w wx→Calls Tryz.prog 100 #[.iface 189 (.agg X)] wx fun e w'=>∃ a c,e=.returned (.agg (nodeC nd (.slice a nd.val.length c)).toArray)∧OwnB w' (.slice a nd.val.length c) nd.val∧(∀ k,(Value.slice a nd.val.length c).ownBlock=some k→wx.heap.size≤k)∧Keeps [] wx w') :
  Calls Tryz.prog 80 #[.int .i64 kind,v] w fun e w'=>∃ a c,e=.returned (.tuple #[.agg (nodeC nd (.slice a nd.val.length c)).toArray,.int .i64 0])∧OwnB w' (.slice a nd.val.length c) nd.val∧(∀ k,(Value.slice a nd.val.length c).ownBlock=some k→w.heap.size≤k)∧Keeps [] w w':=by
 obtain ⟨Z,hZ,hZi,hZ1,hZb⟩:∃ Z:List Value,Z.length=102∧(Tryz.prog.info? 90).map (fun i=>(i.zero,i.size,i.bytes))=some (some (.agg Z.toArray),102,160)∧(∀ v∈Z,v.oneCell'=true)∧Z=nodeC nd0 (.slice none 0 0):=⟨_,nodeC_length nd0_ok _,info_node,nodeC_ones,rfl⟩
 have hbld:∀ w,(Instr.build 90 #[]).run Tryz.prog w=.ok (.agg Z.toArray) w:=fun w=>by rw [hZb];exact run_build_node0 w
 obtain ⟨q,hq⟩:∃ q,q=w.heap.size:=⟨_,rfl⟩
 obtain ⟨w1,hw1⟩:∃ x,x=w.alloc (.cells Z.toArray 90 (0,0)):=⟨_,rfl⟩
 have k1:Keeps [] w w1:=by rw [hw1];exact (Keeps.refl _ _).alloc _
 have b1:w1.heap[q]?=some (.cells Z.toArray 90 (0,0)):=by rw [hw1];exact heap_new_at hq
 have HBL:=Lib.hid hbld
 have HZI:=Lib.hid hZi
 have HW1:=Lib.hid hw1
 have HQ:=Lib.hid hq
 have HK1:=Lib.hid k1
 have HB1:=Lib.hid b1
 have HZ:=Lib.hid (And.intro hZ hZ1)
 have HSZ:=Lib.hid (show (Tryz.prog.info? 90).map (·.size)=some Z.length by rw [hZ];exact size_node)
 have HRD:=Lib.hid (hr w1 k1)
 have HSTD:=Lib.hid hs
 have HND:=Lib.hid hn
 have HOK:=Lib.hid hok
 clear hbld hZi hw1 hq k1 b1 hZ hZ1 hZb hr hs hn hok
 have hmt:=meth_leaf
 go_enter Tryz.func80,Tryz.ntmps80
 go_upto_region 1 with (first | (refine wl_alloc rfl 90 rfl ?_;refine ⟨_,_,run_alloc _ HZI.out,?_⟩;try simp only [zA,zB,zC,zD,zE,zF,zG,zH]))
 try simp only [Value.cells]
 rw [← HW1.out,← HQ.out]
 go_upto_region 4 with (first | (go_at_call 99;refine HRD.out.mono ?_;rintro e w2 ⟨rfl,hk2⟩) | (go_at_call 139;refine (HSTD.out _).mono ?_;rintro e w3 ⟨rfl,hk3⟩))
 have hk13:=hk2.trans (G:=[]) hk3 (by simp)
 have HB3:=Lib.hid ((hk13.block q (lt_of_heap HB1.out) (by simp)).trans HB1.out)
 have HK3:=Lib.hid (HK1.out.trans (G:=[]) hk13 (by simp))
 have HND3:=Lib.hid (HND.out w3 HK3.out)
 clear hk2 hk3 hk13 HND
 go_wp2_with (first | (go_at_call 100;refine HND3.out.mono ?_;rintro e w4 ⟨a4,c4,rfl,hO4,hn4,hk4⟩;obtain ⟨N,hN⟩:∃ N,N=nodeC nd (.slice a4 nd.val.length c4):=⟨_,rfl⟩;rw [← hN];have HN:=Lib.hid (And.intro hN (And.intro (show N.length=102 by rw [hN];exact nodeC_length HOK.out _) (show ∀ v∈N,v.oneCell'=true by rw [hN];exact nodeC_ones)));have HB4:=Lib.hid ((hk4.block q (lt_of_heap HB3.out) (by simp)).trans HB3.out);have HO4:=Lib.hid (And.intro hO4 (And.intro hn4 hk4));clear hN hO4 hn4 hk4) | (refine wl_store rfl 90 (.tmp 4) (.tmp 19) rfl ?_;refine ⟨_,run_store_node HB4.out HZ.out.1 HN.out.2.1 HN.out.2.2,?_⟩;try simp only [zA,zB,zC,zD,zE,zF,zG,zH]))
 refine bodyPost_ret (results_row2 (cs:=N) rfl rfl rfl (rangeAt_all (store_all HB4.out (by rw [HZ.out.1,HN.out.2.1]))) Tryz.underlying90 rfl (by rw [HN.out.2.1];exact size_node)) rfl ⟨a4,c4,by rw [← HN.out.1];rfl,?_,?_,?_⟩
 ·refine ownsRow_keep HO4.out.1 (fun k hk=>heap_setCells_other _ _ _ (fun e=>?_) _ _)
  subst e
  have:=HO4.out.2.1 k hk
  have:=lt_of_heap HB3.out
  omega
 ·exact fun k hk=>Nat.le_trans HK3.out.size (HO4.out.2.1 k hk)
 ·exact (HK3.out.trans (G:=[]) HO4.out.2.2 (by simp)).setCells (.inr (by rw [HQ.out];exact Nat.le_refl _)) _ _
set_option maxRecDepth 100000 in
set_option maxHeartbeats 1600000 in
theorem decode_branch_good {w:World} {kind:Int} {v:Value} {X:Array Value} {nd:Nde} (hok:nd.ok) (hr:∀ wx,Keeps [] w wx→Calls Tryz.prog 99 #[.int .i64 kind,v] wx fun e w'=>e=.returned (.iface 194 (.agg X))∧Keeps [] wx w')
  (hs:∀ wx,Calls Tryz.prog 142 #[.agg X] wx fun e w'=>e=.returned (.bool true)∧Keeps [] wx w')
  (hn:∀ wx,Keeps [] w wx→Calls Tryz.prog 100 #[.iface 194 (.agg X)] wx fun e w'=>∃ a c,e=.returned (.agg (nodeC nd (.slice a nd.val.length c)).toArray)∧OwnB w' (.slice a nd.val.length c) nd.val∧(∀ k,(Value.slice a nd.val.length c).ownBlock=some k→wx.heap.size≤k)∧Keeps [] wx w') :
  Calls Tryz.prog 80 #[.int .i64 kind,v] w fun e w'=>∃ a c,e=.returned (.tuple #[.agg (nodeC nd (.slice a nd.val.length c)).toArray,.int .i64 0])∧OwnB w' (.slice a nd.val.length c) nd.val∧(∀ k,(Value.slice a nd.val.length c).ownBlock=some k→w.heap.size≤k)∧Keeps [] w w':=by
 obtain ⟨Z,hZ,hZi,hZ1,hZb⟩:∃ Z:List Value,Z.length=102∧(Tryz.prog.info? 90).map (fun i=>(i.zero,i.size,i.bytes))=some (some (.agg Z.toArray),102,160)∧(∀ v∈Z,v.oneCell'=true)∧Z=nodeC nd0 (.slice none 0 0):=⟨_,nodeC_length nd0_ok _,info_node,nodeC_ones,rfl⟩
 have hbld:∀ w,(Instr.build 90 #[]).run Tryz.prog w=.ok (.agg Z.toArray) w:=fun w=>by rw [hZb];exact run_build_node0 w
 obtain ⟨q,hq⟩:∃ q,q=w.heap.size:=⟨_,rfl⟩
 obtain ⟨w1,hw1⟩:∃ x,x=w.alloc (.cells Z.toArray 90 (0,0)):=⟨_,rfl⟩
 have k1:Keeps [] w w1:=by rw [hw1];exact (Keeps.refl _ _).alloc _
 have b1:w1.heap[q]?=some (.cells Z.toArray 90 (0,0)):=by rw [hw1];exact heap_new_at hq
 have HBL:=Lib.hid hbld
 have HZI:=Lib.hid hZi
 have HW1:=Lib.hid hw1
 have HQ:=Lib.hid hq
 have HK1:=Lib.hid k1
 have HB1:=Lib.hid b1
 have HZ:=Lib.hid (And.intro hZ hZ1)
 have HSZ:=Lib.hid (show (Tryz.prog.info? 90).map (·.size)=some Z.length by rw [hZ];exact size_node)
 have HRD:=Lib.hid (hr w1 k1)
 have HSTD:=Lib.hid hs
 have HND:=Lib.hid hn
 have HOK:=Lib.hid hok
 clear hbld hZi hw1 hq k1 b1 hZ hZ1 hZb hr hs hn hok
 have hmt:=meth_branch
 go_enter Tryz.func80,Tryz.ntmps80
 go_upto_region 1 with (first | (refine wl_alloc rfl 90 rfl ?_;refine ⟨_,_,run_alloc _ HZI.out,?_⟩;try simp only [zA,zB,zC,zD,zE,zF,zG,zH]))
 try simp only [Value.cells]
 rw [← HW1.out,← HQ.out]
 go_upto_region 4 with (first | (go_at_call 99;refine HRD.out.mono ?_;rintro e w2 ⟨rfl,hk2⟩) | (go_at_call 142;refine (HSTD.out _).mono ?_;rintro e w3 ⟨rfl,hk3⟩))
 have hk13:=hk2.trans (G:=[]) hk3 (by simp)
 have HB3:=Lib.hid ((hk13.block q (lt_of_heap HB1.out) (by simp)).trans HB1.out)
 have HK3:=Lib.hid (HK1.out.trans (G:=[]) hk13 (by simp))
 have HND3:=Lib.hid (HND.out w3 HK3.out)
 clear hk2 hk3 hk13 HND
 go_wp2_with (first | (go_at_call 100;refine HND3.out.mono ?_;rintro e w4 ⟨a4,c4,rfl,hO4,hn4,hk4⟩;obtain ⟨N,hN⟩:∃ N,N=nodeC nd (.slice a4 nd.val.length c4):=⟨_,rfl⟩;rw [← hN];have HN:=Lib.hid (And.intro hN (And.intro (show N.length=102 by rw [hN];exact nodeC_length HOK.out _) (show ∀ v∈N,v.oneCell'=true by rw [hN];exact nodeC_ones)));have HB4:=Lib.hid ((hk4.block q (lt_of_heap HB3.out) (by simp)).trans HB3.out);have HO4:=Lib.hid (And.intro hO4 (And.intro hn4 hk4));clear hN hO4 hn4 hk4) | (refine wl_store rfl 90 (.tmp 4) (.tmp 19) rfl ?_;refine ⟨_,run_store_node HB4.out HZ.out.1 HN.out.2.1 HN.out.2.2,?_⟩;try simp only [zA,zB,zC,zD,zE,zF,zG,zH]))
 refine bodyPost_ret (results_row2 (cs:=N) rfl rfl rfl (rangeAt_all (store_all HB4.out (by rw [HZ.out.1,HN.out.2.1]))) Tryz.underlying90 rfl (by rw [HN.out.2.1];exact size_node)) rfl ⟨a4,c4,by rw [← HN.out.1];rfl,?_,?_,?_⟩
 ·refine ownsRow_keep HO4.out.1 (fun k hk=>heap_setCells_other _ _ _ (fun e=>?_) _ _)
  subst e
  have:=HO4.out.2.1 k hk
  have:=lt_of_heap HB3.out
  omega
 ·exact fun k hk=>Nat.le_trans HK3.out.size (HO4.out.2.1 k hk)
 ·exact (HK3.out.trans (G:=[]) HO4.out.2.2 (by simp)).setCells (.inr (by rw [HQ.out];exact Nat.le_refl _)) _ _
theorem leaf_form {w:World} {a:Option Addr} {c:Nat} {l:List UInt8} (hv:BytesAt w (.slice a l.length c) l) (h32:32≤l.length) :
  ∃ va vc,sliced a 32 l.length c 1=.slice va (l.length - 32) vc∧∀ wx,Keeps [] w wx→BytesAt wx (.slice va (l.length - 32) vc) (l.drop 32):=by
 obtain ⟨a0,c0,hf,hc1,hc2⟩:=hv.form
 injection hf with _ _ hfc
 have hbk:=sl_bytes_back hv h32 (by omega)
 obtain ⟨va,vc,he,_,_⟩:=hbk.form
 rw [List.length_drop] at he
 rw [he] at hbk
 refine ⟨va,vc,he,fun wx hk=>hbk.keeps hk (by simp)⟩
theorem decode_none {w:World} {kind:Int} {a:Option Addr} {c:Nat} {l:List UInt8} (hv:BytesAt w (.slice a l.length c) l) (h:decodeL kind l=none) :
  Calls Tryz.prog 80 #[.int .i64 kind,.slice a l.length c] w fun e w'=>e=.returned (.tuple #[.agg (nodeC nd0 (.slice none 0 0)).toArray,.int .i64 90])∧Keeps [] w w':=by
 unfold decodeL at h
 split at h
 ·rename_i h1
  obtain ⟨rfl,h32⟩:=h1
  split at h
  ·cases h
  ·rename_i h160
   obtain ⟨va,vc,hsl,_⟩:=leaf_form hv h32
   have hrd:=fun wx (hk:Keeps [] w wx)=>read_leaf (hv.keeps hk (by simp)) h32
   rw [hsl] at hrd
   refine decode_leaf_bad hrd (fun wx=>?_)
   have:=leafStands_any (w:=wx) (key:=l.take 32) (a:=va) (n:=l.length - 32) (c:=vc) (by rw [List.length_take];omega)
   rw [decide_eq_false (by omega)] at this
   exact this
 ·rename_i h1
  split at h
  ·rename_i h2
   obtain ⟨rfl,h80⟩:=h2
   split at h
   ·cases h
   ·rename_i hb
    have hb':=Bool.eq_false_iff.2 hb
    refine decode_branch_bad (fun wx hk=>read_branch (hv.keeps hk (by simp)) h80) (fun wx=>?_)
    have:=branchStands_any (w:=wx) (lp:=le4 l 0) (lc:=le4 l 8) (rp:=le4 l 4) (rc:=le4 l 12) (ls:=(l.drop 16).take 32) (rs:=(l.drop 48).take 32) (by rw [List.length_take,List.length_drop];omega) (by rw [List.length_take,List.length_drop];omega) (le4_lt _ _) (le4_lt _ _) (le4_lt _ _) (le4_lt _ _)
    rw [hb'] at this
    exact this
  ·rename_i h2
   exact decode_nil (fun wx _=>read_none h1 h2)
theorem decode_some {w:World} {kind:Int} {a:Option Addr} {c:Nat} {l:List UInt8} {nd:Nde} (hv:BytesAt w (.slice a l.length c) l) (h:decodeL kind l=some nd) :
  Calls Tryz.prog 80 #[.int .i64 kind,.slice a l.length c] w fun e w'=>∃ a' c',e=.returned (.tuple #[.agg (nodeC nd (.slice a' nd.val.length c')).toArray,.int .i64 0])∧OwnB w' (.slice a' nd.val.length c') nd.val∧(∀ k,(Value.slice a' nd.val.length c').ownBlock=some k→w.heap.size≤k)∧Keeps [] w w':=by
 have hok:=decodeL_ok h
 unfold decodeL at h
 split at h
 ·rename_i h1
  obtain ⟨rfl,h32⟩:=h1
  split at h
  ·rename_i h160
   cases h
   obtain ⟨va,vc,hsl,hvb⟩:=leaf_form hv h32
   have hrd:=fun wx (hk:Keeps [] w wx)=>read_leaf (hv.keeps hk (by simp)) h32
   rw [hsl] at hrd
   refine decode_leaf_good hok hrd (fun wx=>?_) (fun wx hk=>?_)
   ·have:=leafStands_any (w:=wx) (key:=l.take 32) (a:=va) (n:=l.length - 32) (c:=vc) (by rw [List.length_take];omega)
    rw [decide_eq_true (by omega)] at this
    exact this
   ·exact nodeOf_leaf (w:=wx) (key:=l.take 32) (val:=l.drop 32) (by rw [List.length_take];omega) (hvb wx hk) (by rw [List.length_drop];omega)
  ·cases h
 ·rename_i h1
  split at h
  ·rename_i h2
   obtain ⟨rfl,h80⟩:=h2
   split at h
   ·rename_i hb
    cases h
    refine decode_branch_good hok (fun wx hk=>read_branch (hv.keeps hk (by simp)) h80) (fun wx=>?_) (fun wx hk=>?_)
    ·have:=branchStands_any (w:=wx) (lp:=le4 l 0) (lc:=le4 l 8) (rp:=le4 l 4) (rc:=le4 l 12) (ls:=(l.drop 16).take 32) (rs:=(l.drop 48).take 32) (by rw [List.length_take,List.length_drop];omega) (by rw [List.length_take,List.length_drop];omega) (le4_lt _ _) (le4_lt _ _) (le4_lt _ _) (le4_lt _ _)
     rw [hb] at this
     exact this
    ·refine (nodeOf_branch (w:=wx) (lp:=le4 l 0) (lc:=le4 l 8) (rp:=le4 l 4) (rc:=le4 l 12) (ls:=(l.drop 16).take 32) (rs:=(l.drop 48).take 32) (by rw [List.length_take,List.length_drop];omega) (by rw [List.length_take,List.length_drop];omega)).mono ?_
     rintro e w' ⟨rfl,hk'⟩
     exact ⟨none,0,rfl,World.ownsRow_nil _ _ _ _,fun k hk=>by simp [branchN,Value.ownBlock] at hk,hk'⟩
   ·cases h
  ·cases h
end Go.Proofs.YtakaocenbempmaaGreatDoor
