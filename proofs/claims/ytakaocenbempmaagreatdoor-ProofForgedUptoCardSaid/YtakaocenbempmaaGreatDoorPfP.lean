/-
  Lemmas of a claim, bundle P: XNdD XR1D XNdF XNdG.
-/
import Derived.Test.YtakaocenbempmaaGreatDoorPfO
import Derived.Test.YtakaocenbempmaaGreatDoorPfK
set_option linter.unusedVariables false
set_option linter.unusedSimpArgs false
namespace Go.Proofs.YtakaocenbempmaaGreatDoor
open Go.RowKit
def emptyD (k:Nat):Nat→List UInt8
 | 0=>cutL (shaL [2]) k
 | h+1=>branchD k (emptyD k h) (emptyD k h)
theorem emptyD_length {k:Nat} (hk:k≤32):∀ h,(emptyD k h).length=32
 | 0=>cutL_length (shaL_length _) hk
 | h+1=>cutL_length (shaL_length _) hk
theorem dg_run_store2 {w:World} {q:Nat} {x y:List UInt8} (h:Blk w q 88 y) (hy:y.length=32) (hl:x.length=32) :
  (Instr.storeAt 88 (.pointer (some ⟨q,0,none⟩)) (.agg (x.map B).toArray)).run Tryz.prog w=.ok () (w.setCells q 0 (x.map B)):=by
 have:=run_storeAt_mid (P:=Tryz.prog) w q 0 88 (x.map B).toArray (there_all (show w.heap[q]?=some (.cells (y.map B).toArray 88 (0,0)) from h) 0 _ (by simp [hl,hy])) (by rw [dg_size];simp [hl]) (all_oneCell_toArray (B_one x))
 simpa using this
theorem dg_store2 {w:World} {q:Nat} {x y:List UInt8} (h:Blk w q 88 y) (hy:y.length=32) (hl:x.length=32):Blk (w.setCells q 0 (x.map B)) q 88 x :=
 store_all (show w.heap[q]?=some (.cells (y.map B).toArray 88 (0,0)) from h) (by simp [hl,hy])
theorem dg_size_of {x:List UInt8} (h:x.length=32):(Tryz.prog.info? 88).map (·.size)=some (x.map B).length:=by rw [List.length_map,h];exact dg_size
set_option maxRecDepth 100000 in
set_option maxHeartbeats 1600000 in
theorem emptyD_any {w:World} (n:Int) (n0:-9223372036854775808≤n) (n1:n≤9223372036854775807) (k:Nat) (hk:(k:Int)=max 0 (min n 32)) (ht:Tabs w) (h:Nat) (hh:h≤256) :
  Calls Tryz.prog 50 #[.int .i64 n,.int .i64 h] w fun e w'=>e=.returned (.agg ((emptyD k h).map B).toArray)∧Keeps [] w w':=by
 obtain ⟨E0,hE0⟩:∃ E,E=emptyD k h:=⟨_,rfl⟩
 rw [← hE0]
 have HE0:=Lib.hid hE0
 clear hE0
 obtain ⟨X,hX,hXi⟩:∃ X:Array Value,X=Array.replicate 32 (.int .u8 0)∧(Tryz.prog.info? 88).map (fun i=>(i.zero,i.size,i.bytes))=some (some (.agg X),32,32):=⟨_,rfl,info_digest⟩
 obtain ⟨q,hq⟩:∃ q,q=w.heap.size:=⟨_,rfl⟩
 obtain ⟨w1,hw1⟩:∃ x,x=w.alloc (.cells X 88 (0,0)):=⟨_,rfl⟩
 have k1:Keeps [] w w1:=by rw [hw1];exact (Keeps.refl _ _).alloc _
 have b1:w1.heap[q]?=some (.cells X 88 (0,0)):=by rw [hw1];exact heap_new_at hq
 obtain ⟨w2,hw2⟩:∃ x,x=w1.alloc (.cells #[.int .u8 2] 5 (0,0)):=⟨_,rfl⟩
 have k2:Keeps [] w1 w2:=by rw [hw2];exact (Keeps.refl _ _).alloc _
 have hx2:BytesAt w2 (.slice (some ⟨w1.heap.size,0,none⟩) 1 1) [2]:=.inr ⟨_,0,1,rfl,by simp,by simp [maxLen],by rw [hw2];simp,rangeAt_all (t:=5) (fr:=(0,0)) (by rw [hw2];exact heap_new_at rfl)⟩
 have hbs:(Instr.buildSlice 36 1 #[(0,.int .u8 2)]).run Tryz.prog w1=.ok (.slice (some ⟨w1.heap.size,0,none⟩) 1 1) w2:=by
  obtain ⟨i,hi,h1,h2,h3⟩:=info_parts info_u8
  rw [hw2]
  refine run_buildSlice w1 _ _ _ _ _ i (.int .u8 0) Tryz.underlying36 hi h1 (by rw [h2];omega) (by rw [h2];omega) ?_
  rw [h2]
  kernel_rfl
 have HK2:=Lib.hid (k1.trans (G:=[]) k2 (by simp))
 have HK12:=Lib.hid k2
 have HB1:=Lib.hid b1
 have HT:=Lib.hid ht
 have HK:=Lib.hid hk
 have hk32:k≤32:=by omega
 have HSUM:=Lib.hid (shaSum_any hx2 ((ht.keeps k1 (by simp) (by simp)).keeps k2 (by simp) (by simp)))
 have HCUT:=Lib.hid (fun (wx:World)=>cut_any (w:=wx) (shaL_length [2]) n n0 n1 k (by omega))
 have HBS:=Lib.hid hbs
 have HW1:=Lib.hid hw1
 have HQ:=Lib.hid hq
 have HX:=Lib.hid hX
 have HXI:=Lib.hid hXi
 clear hbs hw1 hq hX hXi hw2 hx2 k1 k2 b1 ht hk
 go_enter Tryz.func50,Tryz.ntmps50
 go_upto_region 1 with (first | (refine wl_alloc rfl 88 rfl ?_;refine ⟨_,_,run_alloc _ HXI.out,?_⟩;try simp only [zA,zB,zC,zD,zE,zF,zG,zH]))
 try simp only [Value.cells]
 rw [← HW1.out,← HQ.out]
 go_upto_region 2 with (first | (refine wl_buildSlice rfl 36 1 #[(0,.const (.int .u8 2))] #[(0,.int .u8 2)] rfl (by simp [Act.eval]) ?_;refine ⟨_,_,HBS.out,?_⟩;try simp only [zA,zB,zC,zD,zE,zF,zG,zH]) | (go_at_call 57;refine HSUM.out.mono ?_;rintro e w3 ⟨rfl,hk3⟩) | (go_at_call 55;refine (HCUT.out w3).mono ?_;rintro e w4 ⟨rfl,hk4⟩) | (refine wl_alloc rfl 88 rfl ?_;refine ⟨_,_,run_alloc _ HXI.out,?_⟩;(try simp only [Value.cells]);try simp only [zA,zB,zC,zD,zE,zF,zG,zH]) | (refine wl_store rfl 88 (.tmp 5) (.tmp 9) rfl ?_;refine ⟨_,dg_run_store (heap_new_at rfl |>.trans (by rw [HX.out])) (cutL_length (shaL_length _) hk32),?_⟩;try simp only [zA,zB,zC,zD,zE,zF,zG,zH]))
 have k4:Keeps [] w w4:=HK2.out.trans (G:=[]) (hk3.trans (G:=[]) hk4 (by simp)) (by simp)
 obtain ⟨q5,hq5⟩:∃ x,x=w4.heap.size:=⟨_,rfl⟩
 obtain ⟨w5,hw5⟩:∃ x,x=(w4.alloc (.cells X 88 (0,0))).setCells q5 0 ((cutL (shaL [2]) k).map B):=⟨_,rfl⟩
 have b5:Blk w5 q5 88 (emptyD k 0):=by
  rw [hw5]
  exact dg_store ((heap_new_at hq5).trans (by rw [HX.out])) (cutL_length (shaL_length _) hk32)
 have k5:Keeps [] w w5:=by rw [hw5];exact (k4.alloc _).setCells (.inr (by rw [hq5];exact k4.size)) _ _
 have hqq:q < q5:=by
  rw [hq5]
  have:=(k4.size)
  have h1:=(HK12.out.trans (G:=[]) (hk3.trans (G:=[]) hk4 (by simp)) (by simp)).size
  have h2:=lt_of_heap HB1.out
  omega
 have r5:w5.heap[q]?=some (.cells (Array.replicate 32 (Value.int .u8 0)) 88 (0,0)):=by
  rw [← HX.out,hw5]
  have e4:=((HK12.out.trans (G:=[]) (hk3.trans (G:=[]) hk4 (by simp)) (by simp)).block q (lt_of_heap HB1.out) (by simp)).trans HB1.out
  have h4:Keeps [q5] w4 ((w4.alloc (.cells X 88 (0,0))).setCells q5 0 ((cutL (shaL [2]) k).map B)):=((Keeps.refl _ _).alloc _).setCells (.inl (by simp)) _ _
  exact (h4.block q (lt_of_heap e4) (by simp;omega)).trans e4
 have HR5:=Lib.hid r5
 have HK5:=Lib.hid k5
 have HB5:=Lib.hid b5
 have HQQ:=Lib.hid hqq
 rw [← hq5]
 rw [← hw5]
 have hgl:=HT.out.lt
 have HT5:=Lib.hid (HT.out.keeps k5 (by simp) (by simp))
 have HGL:=Lib.hid (show 2≠q5∧0≠q5 by have:=k4.size;omega)
 have HQW:=Lib.hid (show w.heap.size≤q5 by rw [hq5];exact k4.size)
 clear k4 hq5 hw5 b5 k5 hqq r5 hk3 hk4 hgl HSUM HCUT HBS HB1 HK12 HK2
 go_wp2_with (first | (go_at_call 56;refine (within_any _ _ _).mono ?_;rintro e w' ⟨rfl,rfl⟩;rw [show max 0 (min (h:Int) 256)=(h:Int) by omega]))
 go_loopw [12] (fun iv wr=>∃ j:Nat,j≤h∧iv=.int .i64 j∧Blk wr q5 88 (emptyD k j)∧Keeps [q5] w5 wr) (fun iv _=>h - (intOf iv).toNat)
 case atStart=>exact ⟨0,by omega,rfl,HB5.out,Keeps.refl _ _⟩
 case round =>
  obtain ⟨j,hj,rfl,hb,hkr⟩:=hrel
  have hl32:(emptyD k j).length=32:=emptyD_length (by omega) j
  by_cases hlt:j < h
  ·have HBR:=Lib.hid (branch_any (w:=wr) hl32 hl32 n n0 n1 k HK.out (HT5.out.keeps hkr (by simp;exact HGL.out.1) (by simp;exact HGL.out.2)))
   have hl33:(emptyD k (j+1)).length=32:=emptyD_length (by omega) (j+1)
   have HBE:=Lib.hid hb
   have HSD:=Lib.hid (dg_size_of hl32)
   have HKR:=Lib.hid hkr
   have HL:=Lib.hid (And.intro hl32 hl33)
   obtain ⟨E,hE⟩:∃ E,E=emptyD k j:=⟨_,rfl⟩
   obtain ⟨E1,hE1⟩:∃ E1,E1=branchD k (emptyD k j) (emptyD k j):=⟨_,rfl⟩
   rw [← hE1,← hE] at HBR
   rw [← hE] at HBE HSD
   have HE:=Lib.hid (And.intro hE hE1)
   clear hb hkr hl32 hl33 hE hE1
   go_wp2_with (first | (refine wpList_load_mid rfl 88 (.tmp 5) rfl q5 0 (by rfl) (E.map B) _ (rangeAt_all HBE.out) Tryz.underlying88 rfl HSD.out ?_;try simp only [zA,zB,zC,zD,zE,zF,zG,zH]) | (go_at_call 51;refine HBR.out.mono ?_;rintro e w6 ⟨rfl,hk6⟩) | (refine wl_store rfl 88 (.tmp 5) (.tmp 17) rfl ?_;refine ⟨_,dg_run_store2 (HBE.out.keeps hk6 (by simp)) (by rw [HE.out.1];exact HL.out.1) (by rw [HE.out.2];exact HL.out.2),?_⟩;try simp only [zA,zB,zC,zD,zE,zF,zG,zH]))
   go_roundw
   case rel =>
    refine ⟨j+1,by omega,by go_num,?_,(HKR.out.trans (G:=[]) hk6 (by simp)).setCells (.inl (by simp)) _ _⟩
    have:=dg_store2 (x:=E1) (HBE.out.keeps hk6 (by simp)) (by rw [HE.out.1];exact HL.out.1) (by rw [HE.out.2];exact HL.out.2)
    rw [show emptyD k (j+1)=E1 from HE.out.2.symm]
    exact this
   case measure=>simp [intOf];omega
  ·have e:j=h:=by omega
   subst e
   have hr:=((hkr.block q (lt_of_heap HR5.out) (by simp;have:=HQQ.out;omega)).trans HR5.out)
   rw [← HE0.out] at hl32 hb
   have HBE:=Lib.hid hb
   have HSD:=Lib.hid (dg_size_of hl32)
   have HRR:=Lib.hid hr
   have HL:=Lib.hid hl32
   have HKK:=Lib.hid (HK5.out.trans (G:=[q5]) hkr (fun k hk=>.inr (by simp at hk;subst hk;exact HQW.out)))
   clear hb hr hl32 hkr
   go_wp2_with (first | (refine wpList_load_mid rfl 88 (.tmp 5) rfl q5 0 (by rfl) (E0.map B) _ (rangeAt_all HBE.out) Tryz.underlying88 rfl HSD.out ?_;try simp only [zA,zB,zC,zD,zE,zF,zG,zH]) | (refine wl_store rfl 88 (.tmp 4) (.tmp 19) rfl ?_;refine ⟨_,dg_run_store HRR.out HL.out,?_⟩;try simp only [zA,zB,zC,zD,zE,zF,zG,zH]))
   refine bodyPost_ret (results_row (cs:=E0.map B) rfl rfl (rangeAt_all (dg_store HRR.out HL.out)) Tryz.underlying88 rfl HSD.out) rfl ⟨rfl,?_⟩
   exact HKK.out.setCells (.inr (by rw [HQ.out];exact Nat.le_refl _)) _ _
open Go.RowKit
theorem bytes_range (s:S8):s.bytes=(List.range 32).map fun i=>UInt8.ofNat (s.words.getD (i / 4) 0 / 2 ^ (24 - 8 * (i % 4)) % 256):=by
 simp [S8.bytes,beN,List.range_succ,S8.words,Nat.div_div_eq_div_mul]
theorem info_dig:∃ Z:List UInt8,Z.length=32∧(Tryz.prog.info? 88).map (fun i=>(i.zero,i.size,i.bytes))=some (some (.agg (Z.map B).toArray),32,32):=⟨List.replicate 32 0,by simp,by kernel_rfl⟩
theorem run_store_dig {w:World} {q:Nat} {z x:List UInt8} (h:Blk w q 88 z) (hz:z.length=32) (hl:x.length=32) :
  (Instr.storeAt 88 (.pointer (some ⟨q,0,none⟩)) (.agg (x.map B).toArray)).run Tryz.prog w=.ok () (w.setCells q 0 (x.map B)):=by
 have:=run_storeAt_mid (P:=Tryz.prog) w q 0 88 (x.map B).toArray (there_all h 0 _ (by simp [hl,hz])) (by rw [dg_size];simp [hl]) (all_oneCell_toArray (B_one x))
 simpa using this
theorem dig_store {w:World} {q:Nat} {z x:List UInt8} (h:Blk w q 88 z) (hl:z.length=x.length):Blk (w.setCells q 0 (x.map B)) q 88 x:=store_all h (by simp [hl])
theorem getD_set' (l:List UInt8) (i j:Nat) (x:UInt8) (hi:i < l.length):(l.set i x).getD j 0=if j=i then x else l.getD j 0:=by
 simp only [List.getD_eq_getElem?_getD,List.getElem?_set]
 by_cases h:i=j
 ·subst h;simp [hi]
 ·rw [if_neg h,if_neg (fun e=>h e.symm)]
set_option maxRecDepth 100000 in
set_option maxHeartbeats 1600000 in
theorem r1Cut_any {w:World} {d:List UInt8} (hd:d.length=32) (n:Int) (k:Nat) (hk:(k:Int)=min (max n 0) 32) :
  Calls Tryz.prog 64 #[.agg (d.map B).toArray,.int .i64 n] w fun e w'=>e=.returned (.agg ((cutL d k).map B).toArray)∧Keeps [] w w':=by
 obtain ⟨Z,hZl,hZi⟩:=info_dig
 obtain ⟨g2,hg2⟩:∃ x,x=w.heap.size:=⟨_,rfl⟩
 obtain ⟨wa,hwa⟩:∃ x,x=w.alloc (.cells (d.map B).toArray 88 (0,0)):=⟨_,rfl⟩
 obtain ⟨g4,hg4⟩:∃ x,x=wa.heap.size:=⟨_,rfl⟩
 obtain ⟨w1,hw1⟩:∃ x,x=wa.alloc (.cells (Z.map B).toArray 88 (0,0)):=⟨_,rfl⟩
 have e4:g4=w.heap.size+1:=by rw [hg4,hwa];simp
 have k1:Keeps [] w w1:=by rw [hw1,hwa];exact ((Keeps.refl _ _).alloc _).alloc _
 have z4:Blk w1 g4 88 Z:=by rw [hw1];exact heap_new_at hg4
 have z2:Blk w1 g2 88 d:=by rw [hw1];exact (heap_old_at (by rw [← hg4];omega)).trans (by rw [hwa];exact heap_new_at hg2)
 have HZI:=Lib.hid hZi
 have HZL:=Lib.hid hZl
 have HD:=Lib.hid hd
 have HKN:=Lib.hid hk
 have HG2:=Lib.hid hg2
 have HWA:=Lib.hid hwa
 have HG4:=Lib.hid hg4
 have HW1:=Lib.hid hw1
 have HE4:=Lib.hid e4
 have HK1:=Lib.hid k1
 have HZ4:=Lib.hid z4
 have HZ2:=Lib.hid z2
 clear hZl hZi hg2 hwa hg4 hw1 e4 k1 z4 z2 hd hk
 go_enter Tryz.func64,Tryz.ntmps64
 go_upto_region 1 with (first | (refine wl_alloc rfl 88 rfl ?_;refine ⟨_,_,run_alloc _ HZI.out,?_⟩;try simp only [zA,zB,zC,zD,zE,zF,zG,zH]))
 try simp only [Value.cells]
 rw [← HWA.out,← HW1.out,← HG4.out,← HG2.out]
 go_wp2_with fail
 go_loopw [5] (fun iv wr=>∃ (i:Nat) (L:List UInt8),i≤32∧iv=.int .i64 i∧L.length=32∧(∀ j,L.getD j 0=if j < i∧k≤j then 0 else d.getD j 0)∧Blk wr g2 88 L∧Keeps [g2] w1 wr) (fun iv _=>32 - (intOf iv).toNat)
 case atStart=>exact ⟨0,d,Nat.zero_le _,rfl,HD.out,fun j=>by simp,HZ2.out,Keeps.refl _ _⟩
 case round =>
  obtain ⟨i,L,hi,rfl,hL,hLj,hb,hkr⟩:=hrel
  have HL:=Lib.hid hL
  have HLJ:=Lib.hid hLj
  have HB:=Lib.hid hb
  have HKR:=Lib.hid hkr
  clear hL hLj hb hkr
  have i0:(0:Int)≤(i:Int):=by omega
  by_cases hlt:i < 32
  ·have i1:(i:Int) < 32:=by omega
   have HC:=Lib.hid (HB.out.cell i (by rw [HL.out];exact hlt))
   have hc:wr.cell? ⟨g2,i,none⟩=some _:=HB.out.cell i (by rw [HL.out];exact hlt)
   have hf:=HB.out.free i
   by_cases hw:n≤(i:Int)
   ·have hki:k≤i:=by have:=HKN.out;omega
    go_wp2_with fail
    go_roundw
    case rel =>
     refine ⟨i+1,L.set i 0,by omega,by go_num,by rw [List.length_set];exact HL.out,fun j=>?_,HB.out.set i 0,HKR.out.setCell (.inl (by simp)) _⟩
     rw [getD_set' _ _ _ _ (by rw [HL.out];exact hlt),HLJ.out]
     by_cases e:j=i
     ·subst e;rw [if_pos rfl,if_pos ⟨by omega,hki⟩]
     ·rw [if_neg e]
      by_cases h:j < i∧k≤j
      ·rw [if_pos h,if_pos ⟨by omega,h.2⟩]
      ·rw [if_neg h,if_neg (by omega)]
    case measure=>simp [intOf];omega
   ·have hki:¬ k≤i:=by have:=HKN.out;omega
    go_wp2_with fail
    go_roundw
    case rel =>
     refine ⟨i+1,L,by omega,by go_num,HL.out,fun j=>?_,HB.out,HKR.out⟩
     rw [HLJ.out]
     by_cases h:j < i∧k≤j
     ·rw [if_pos h,if_pos ⟨by omega,h.2⟩]
     ·rw [if_neg h,if_neg (by omega)]
    case measure=>simp [intOf];omega
  ·have i1:¬ (i:Int) < 32:=by omega
   obtain rfl:i=32:=by omega
   have eL:L=cutL d k:=by
    have hk32:k≤32:=by have:=HKN.out;omega
    refine List.ext_getElem (by rw [HL.out,cutL_length HD.out hk32]) (fun j h1 h2=>?_)
    have h:=HLJ.out j
    rw [HL.out] at h1
    rw [List.getD_eq_getElem?_getD,List.getElem?_eq_getElem (by rw [HL.out];exact h1)] at h
    simp only [Option.getD_some] at h
    rw [h]
    simp only [cutL]
    by_cases hj:j < k
    ·rw [if_neg (by omega),List.getElem_append_left (by rw [List.length_take,HD.out];omega),List.getElem_take,List.getD_eq_getElem?_getD,List.getElem?_eq_getElem (by rw [HD.out];exact h1)]
     rfl
    ·rw [if_pos ⟨h1,by omega⟩,List.getElem_append_right (by rw [List.length_take,HD.out];omega),List.getElem_replicate]
   have HEL:=Lib.hid eL
   have h4:=HZ4.out.keeps HKR.out (by simp;have:=HE4.out;have:=HG2.out;omega)
   have HRG:=Lib.hid (rangeAt_all HB.out)
   have HST:=Lib.hid (run_store_dig h4 HZL.out HL.out)
   have HWF:=Lib.hid (dig_store (x:=L) h4 (by rw [HZL.out,HL.out]))
   have HSLL:=Lib.hid (dg_size_of HL.out)
   clear eL h4 i0 i1 hlt hi
   go_wp2_with (first | (refine wpList_load_mid rfl 88 (.tmp 2) rfl g2 0 (by rfl) (L.map B) _ HRG.out Tryz.underlying88 rfl HSLL.out ?_;try simp only [zA,zB,zC,zD,zE,zF,zG,zH]) | (refine wl_store rfl 88 (.tmp 4) (.tmp 15) rfl ?_;refine ⟨_,HST.out,?_⟩;try simp only [zA,zB,zC,zD,zE,zF,zG,zH]))
   refine bodyPost_ret (v:=.agg (L.map B).toArray) (results_row (by rfl) (by rfl) (rangeAt_all HWF.out) Tryz.underlying88 rfl HSLL.out) rfl ⟨by rw [HEL.out],?_⟩
   exact (((HK1.out.trans (G:=[g2]) HKR.out (fun j hj=>.inr (by simp at hj;have:=HG2.out;omega))).mono (by simp)).setCells (.inr (by have:=HE4.out;omega)) _ _)
theorem RTabs.row {w:World} (h:RTabs w):w.rangeAt 1 0 (shaIV.words.map W32):=fun j v hj=>by
 have hl:j < 8:=by
  have:=(List.getElem?_eq_some_iff.1 hj).1
  rw [List.length_map] at this
  exact this
 rw [Nat.zero_add,h.begin j hl]
 rw [List.getElem?_map,List.getElem?_eq_getElem (by exact hl)] at hj
 rw [List.getD_eq_getElem?_getD,List.getElem?_eq_getElem (by exact hl)]
 exact hj
set_option maxRecDepth 100000 in
set_option maxHeartbeats 6400000 in
theorem r1Sum_any {w:World} {v:Value} {m:List UInt8} (hv:BytesAt w v m) (hl:m.length≤1048576) (ht:RTabs w) :
  Calls Tryz.prog 84 #[v] w fun e w'=>e=.returned (.agg ((shaL m).map B).toArray)∧Keeps [] w w':=by
 obtain ⟨a,c,rfl,hc,hm⟩:=hv.form
 obtain ⟨Z,hZl,hZi⟩:=info_dig
 obtain ⟨Y,hYl,hYi⟩:∃ Y:List Nat,Y.length=8∧(Tryz.prog.info? 154).map (fun i=>(i.zero,i.size,i.bytes))=some (some (.agg (Y.map W32).toArray),8,32):=⟨List.replicate 8 0,by simp,info_8u32⟩
 obtain ⟨X,hXl,hXi⟩:∃ X:List Nat,X.length=64∧(Tryz.prog.info? 181).map (fun i=>(i.zero,i.size,i.bytes))=some (some (.agg (X.map W32).toArray),64,256):=⟨List.replicate 64 0,by simp,info_64u32⟩
 obtain ⟨I,hI⟩:∃ I,I=shaIV.words:=⟨_,rfl⟩
 have hIl:I.length=8:=by rw [hI];rfl
 obtain ⟨g2,hg2⟩:∃ x,x=w.heap.size:=⟨_,rfl⟩
 obtain ⟨w1,hw1⟩:∃ x,x=w.alloc (.cells (Z.map B).toArray 88 (0,0)):=⟨_,rfl⟩
 have k1:Keeps [] w w1:=by rw [hw1];exact (Keeps.refl _ _).alloc _
 have z2:Blk w1 g2 88 Z:=by rw [hw1];exact heap_new_at hg2
 have hfil:=filled_any (hv.keeps k1 (by simp)) hl
 have ht1:=ht.keeps k1 (by simp) (by simp)
 have HZI:=Lib.hid hZi
 have HZL:=Lib.hid hZl
 have HYI:=Lib.hid hYi
 have HYL:=Lib.hid hYl
 have HXI:=Lib.hid hXi
 have HXL:=Lib.hid hXl
 have HII:=Lib.hid (And.intro hI hIl)
 have HG2:=Lib.hid hg2
 have HW1:=Lib.hid hw1
 have HK1:=Lib.hid k1
 have HZ2:=Lib.hid z2
 have HFIL:=Lib.hid hfil
 have HT1:=Lib.hid ht1
 have HSZI:=Lib.hid (show (Tryz.prog.info? 154).map (·.size)=some (I.map W32).length by rw [List.length_map,hIl];exact size_8u32)
 clear hv hZl hZi hYi hYl hXi hXl hI hIl hg2 hw1 k1 z2 hfil ht1 ht hc hm
 go_enter Tryz.func84,Tryz.ntmps84
 go_upto_region 1 with (first | (refine wl_alloc rfl 88 rfl ?_;refine ⟨_,_,run_alloc _ HZI.out,?_⟩;try simp only [zA,zB,zC,zD,zE,zF,zG,zH]))
 try simp only [Value.cells]
 rw [← HW1.out,← HG2.out]
 go_upto_region 2 with (first | (go_at_call 102;refine HFIL.out.mono ?_;rintro e w2 ⟨v2,rfl,hown2,hfr2,hk2⟩))
 obtain ⟨P,hP⟩:∃ P,P=shaPad m:=⟨_,rfl⟩
 rw [← hP] at hown2
 have hPl:P.length % 64=0:=by rw [hP];exact shaPad_length m
 have hPm:P.length≤1099511627776:=by rw [hP];simp [shaPad,beN_length];omega
 have hP0:0 < P.length:=by rw [hP];simp [shaPad];omega
 obtain ⟨NB,hNB⟩:∃ NB,NB=P.length / 64:=⟨_,rfl⟩
 obtain ⟨a2,c2,rfl,hc2,hcm2⟩:=(ownB_bytes hown2).form
 obtain ⟨gp,op,rfl,hgp,hrp⟩:=(ownB_bytes hown2).at hP0
 obtain ⟨PN,hPN⟩:∃ PN,PN=P.length:=⟨_,rfl⟩
 rw [← hPN] at hc2 hPl hPm hP0 hNB ⊢
 obtain ⟨g4,hg4⟩:∃ x,x=w2.heap.size:=⟨_,rfl⟩
 obtain ⟨w3,hw3⟩:∃ x,x=(w2.alloc (.cells (Y.map W32).toArray 154 (0,0))).setCells g4 0 (I.map W32):=⟨_,rfl⟩
 have z4:Wds (w2.alloc (.cells (Y.map W32).toArray 154 (0,0))) g4 154 Y:=heap_new_at hg4
 have hst:=run_store_wds z4 HYL.out HII.out.2 size_8u32
 rw [← hw3] at hst
 have y4:Wds w3 g4 154 I:=by rw [hw3];exact wds_store z4 (by rw [HYL.out,HII.out.2])
 have k23:Keeps [] w2 w3:=by rw [hw3];exact ((Keeps.refl _ _).alloc _).setCells (.inr (by omega)) _ _
 have ht2:=HT1.out.keeps hk2 (by simp) (by simp)
 have HROW:=Lib.hid (show w2.rangeAt 1 0 (I.map W32) by rw [HII.out.1];exact ht2.row)
 have HP:=Lib.hid hP
 have HPN:=Lib.hid (And.intro hPN (And.intro hPl (And.intro hPm (And.intro hP0 hNB))))
 have HRP:=Lib.hid (rangeAt_of_heap hrp (k23.block gp hgp (by simp)))
 have HGP:=Lib.hid (show gp < w3.heap.size∧gp < g4 by have:=k23.size;omega)
 have HG4:=Lib.hid hg4
 have HW3:=Lib.hid hw3
 have HST:=Lib.hid hst
 have HY4:=Lib.hid y4
 have HT3:=Lib.hid (ht2.keeps k23 (by simp) (by simp))
 have HK3:=Lib.hid ((HK1.out.trans (G:=[]) hk2 (by simp)).trans (G:=[]) k23 (by simp))
 have HZ3:=Lib.hid ((HZ2.out.keeps hk2 (by simp)).keeps k23 (by simp))
 have HG24:=Lib.hid (show g2 < g4 by rw [hg4];exact Nat.lt_of_lt_of_le (lt_of_heap HZ2.out) hk2.size)
 have HNG:=Lib.hid (show 3 ∉ [g4]∧1 ∉ [g4] by have:=ht2.lt;simp;omega)
 clear hown2 hfr2 hP hPN hPl hPm hP0 hNB hcm2 hgp hrp hg4 hw3 z4 hst y4 k23 ht2 hk2 HFIL HT1 hc2
 go_wp2_with (first | (refine wpList_load_mid rfl 154 (.global 1) rfl 1 0 (by rfl) (I.map W32) _ HROW.out Tryz.underlying154 rfl HSZI.out ?_;try simp only [zA,zB,zC,zD,zE,zF,zG,zH]) | (refine wl_alloc rfl 154 rfl ?_;refine ⟨_,_,run_alloc _ HYI.out,?_⟩;(try simp only [Value.cells]);rw [← HG4.out];try simp only [zA,zB,zC,zD,zE,zF,zG,zH]) | (refine wl_store rfl 154 (.tmp 4) (.tmp 11) rfl ?_;refine ⟨_,HST.out,?_⟩;try simp only [zA,zB,zC,zD,zE,zF,zG,zH]))
 go_loopw [5] (fun iv wr=>∃ k:Nat,k≤NB∧iv=.int .i64 ((64 * k:Nat):Int)∧Wds wr g4 154 (shaBlocks shaIV P k).words∧Keeps [g4] w3 wr) (fun iv _=>PN - (intOf iv).toNat)
 case atStart=>exact ⟨0,Nat.zero_le _,rfl,by have:=HY4.out;rwa [HII.out.1] at this,Keeps.refl _ _⟩
 case round =>
  obtain ⟨k,hk,rfl,hws,hkr⟩:=hrel
  have HWS:=Lib.hid hws
  have HKR:=Lib.hid hkr
  clear hws hkr
  obtain ⟨at_,hat⟩:∃ x,x=64 * k:=⟨_,rfl⟩
  rw [← hat]
  have a0:(0:Int)≤(at_:Int):=by omega
  by_cases hlt:k < NB
  ·have hin:at_+64≤PN:=by have:=HPN.out;omega
   have a1:(at_:Int) < (PN:Int):=by omega
   have hpm:PN≤1099511627776:=HPN.out.2.2.1
   have hwd:=words_any (c:=c2) (at_:=at_) (p:=(P.drop at_).take 64) (rangeAt_of_heap HRP.out (HKR.out.block gp HGP.out.1 (by simp;exact Nat.ne_of_lt HGP.out.2))) (Nat.lt_of_lt_of_le HGP.out.1 HKR.out.size) HPN.out.1.symm hin HPN.out.2.2.1 rfl
   obtain ⟨S,hS⟩:∃ S,S=sched ((P.drop at_).take 64) 64:=⟨_,rfl⟩
   have hSl:S.length=64:=by rw [hS,sched_length]
   rw [← hS] at hwd
   have HWDS:=Lib.hid hwd
   have HKK:=Lib.hid (And.intro hat hS)
   have HSL:=Lib.hid hSl
   obtain ⟨R,hR⟩:∃ R,R=shaBlocks shaIV P k:=⟨_,rfl⟩
   obtain ⟨RW,hRW⟩:∃ RW,RW=R.words:=⟨_,rfl⟩
   have HRR:=Lib.hid (And.intro hR (And.intro hRW (show RW.length=8 by rw [hRW];rfl)))
   have hws2:Wds wr g4 154 RW:=by rw [hRW,hR];exact HWS.out
   have HWS2:=Lib.hid hws2
   have HSZR:=Lib.hid (show (Tryz.prog.info? 154).map (·.size)=some (RW.map W32).length by rw [List.length_map,hRW];exact size_8u32)
   have HSZS:=Lib.hid (show (Tryz.prog.info? 181).map (·.size)=some (S.map W32).length by rw [List.length_map,hSl];exact size_64u32)
   clear hwd hat hk hS hSl hR hRW hws2 HWS
   go_upto_region 7 with (first | (go_at_call 103;refine HWDS.out.mono ?_;rintro e w4 ⟨rfl,hk4⟩) | (refine wl_alloc rfl 181 rfl ?_;refine ⟨_,_,run_alloc _ HXI.out,?_⟩;(try simp only [Value.cells]);try simp only [zA,zB,zC,zD,zE,zF,zG,zH]) | (refine wl_store rfl 181 (.tmp 6) (.tmp 20) rfl ?_;refine ⟨_,run_store_wds (x:=S) (heap_new_at rfl) HXL.out HSL.out size_64u32,?_⟩;try simp only [zA,zB,zC,zD,zE,zF,zG,zH]))
   obtain ⟨g6,hg6⟩:∃ x,x=w4.heap.size:=⟨_,rfl⟩
   obtain ⟨w5,hw5⟩:∃ x,x=(w4.alloc (.cells (X.map W32).toArray 181 (0,0))).setCells w4.heap.size 0 (S.map W32):=⟨_,rfl⟩
   rw [← hw5,← hg6]
   have k45:Keeps [] w4 w5:=by rw [hw5];exact ((Keeps.refl _ _).alloc _).setCells (.inr (Nat.le_refl _)) _ _
   have k5:=hk4.trans (G:=[]) k45 (by simp)
   have b6:Wds w5 g6 181 S:=by rw [hw5,hg6];exact wds_store (heap_new_at rfl) (by rw [HXL.out,HSL.out])
   have HRG4:=Lib.hid (HWS2.out.keeps k5 (by simp)).range
   have HRG6:=Lib.hid b6.range
   have hbe:=behind_any (p:=(P.drop at_).take 64) (s:=R) (by rw [HRR.out.1];exact shaBlocks_ok shaIV_ok _ _) ((HT3.out.keeps HKR.out HNG.out.1 HNG.out.2).keeps k5 (by simp) (by simp))
   rw [← HKK.out.2,← HRR.out.2.1] at hbe
   obtain ⟨RN,hRN⟩:∃ RN,RN=(shaBlock R ((P.drop at_).take 64)).words:=⟨_,rfl⟩
   rw [← hRN] at hbe
   have HBE:=Lib.hid hbe
   have HRN:=Lib.hid (And.intro hRN (show RN.length=8 by rw [hRN];rfl))
   have HK5:=Lib.hid k5
   have hs4:=fun (wx:World) (h:Keeps [] w5 wx)=>run_store_wds (x:=RN) ((HWS2.out.keeps k5 (by simp)).keeps h (by simp)) HRR.out.2.2 HRN.out.2 size_8u32
   have HS4:=Lib.hid hs4
   clear hw5 hg6 k45 k5 b6 hbe hRN hk4 HWDS hs4
   go_wp2_with (first | (refine wpList_load_mid rfl 154 (.tmp 4) rfl g4 0 (by rfl) (RW.map W32) _ HRG4.out Tryz.underlying154 rfl HSZR.out ?_;try simp only [zA,zB,zC,zD,zE,zF,zG,zH]) | (refine wpList_load_mid rfl 181 (.tmp 6) rfl g6 0 (by rfl) (S.map W32) _ HRG6.out Tryz.underlying181 rfl HSZS.out ?_;try simp only [zA,zB,zC,zD,zE,zF,zG,zH]) | (go_at_call 104;refine HBE.out.mono ?_;rintro e w6 ⟨rfl,hk6⟩) | (refine wl_store rfl 154 (.tmp 4) (.tmp 23) rfl ?_;refine ⟨_,HS4.out _ hk6,?_⟩;try simp only [zA,zB,zC,zD,zE,zF,zG,zH]))
   go_roundw
   case rel =>
    refine ⟨k+1,by omega,?_,?_,((HKR.out.trans (G:=[]) (HK5.out.trans (G:=[]) hk6 (by simp)) (by simp)).setCells (.inl (by simp)) _ _)⟩
    ·have:=HKK.out.1
     congr 1
     omega
    ·have h:=wds_store (x:=RN) ((HWS2.out.keeps HK5.out (by simp)).keeps hk6 (by simp)) (by rw [HRR.out.2.2,HRN.out.2])
     rw [shaBlocks,← HRR.out.1,← HKK.out.1,← HRN.out.1]
     exact h
   case measure=>have:=HKK.out.1;simp [intOf];omega
  ·have e:k=NB:=by omega
   have a1:¬ (at_:Int) < (PN:Int):=by have:=HPN.out;omega
   obtain ⟨R,hR⟩:∃ R,R=shaBlocks shaIV P k:=⟨_,rfl⟩
   obtain ⟨RW,hRW⟩:∃ RW,RW=R.words:=⟨_,rfl⟩
   have hdig:shaL m=R.bytes:=by
    unfold shaL
    rw [← HP.out,hR,e,HPN.out.2.2.2.2,HPN.out.1]
   have hRok:∀ i,i < 8→RW.getD i 0 < 4294967296:=fun i hi=>by
    have h:R.ok:=by rw [hR];exact shaBlocks_ok shaIV_ok _ _
    rw [hRW]
    obtain ⟨h0,h1,h2,h3,h4,h5,h6,h7⟩:=h
    match i,hi with
    | 0,_=>exact h0
    | 1,_=>exact h1
    | 2,_=>exact h2
    | 3,_=>exact h3
    | 4,_=>exact h4
    | 5,_=>exact h5
    | 6,_=>exact h6
    | 7,_=>exact h7
   have hws2:Wds wr g4 154 RW:=by rw [hRW,hR];exact HWS.out
   have HWS2:=Lib.hid hws2
   have HDIG:=Lib.hid hdig
   have HRW:=Lib.hid (And.intro hRW (show RW.length=8 by rw [hRW];rfl))
   obtain ⟨g7,hg7⟩:∃ x,x=wr.heap.size:=⟨_,rfl⟩
   obtain ⟨wz,hwz⟩:∃ x,x=wr.alloc (.cells (Z.map B).toArray 88 (0,0)):=⟨_,rfl⟩
   have z7:Blk wz g7 88 Z:=by rw [hwz];exact heap_new_at hg7
   have kz:Keeps [] wr wz:=by rw [hwz];exact (Keeps.refl _ _).alloc _
   have HG7:=Lib.hid hg7
   have HWZ:=Lib.hid hwz
   have HZ7:=Lib.hid z7
   have HZW:=Lib.hid (hws2.keeps kz (by simp))
   have HKZ:=Lib.hid (HKR.out.trans (G:=[]) kz (by simp))
   have HZ2Z:=Lib.hid ((HZ3.out.keeps HKR.out (by simp;exact Nat.ne_of_lt HG24.out)).keeps kz (by simp))
   have HLT:=Lib.hid (show g4 < g7∧g2 < g7 by
    have h1:=lt_of_heap hws2
    have h2:=HG24.out
    omega)
   have hRK:=Lib.hid hRok
   clear hR hRW hdig hws2 hg7 hwz z7 kz hRok hk e hlt hat HWS
   go_wp2_with (first | (refine wl_alloc rfl 88 rfl ?_;refine ⟨_,_,run_alloc _ HZI.out,?_⟩;(try simp only [Value.cells]);rw [← HWZ.out,← HG7.out];try simp only [zA,zB,zC,zD,zE,zF,zG,zH]))
   go_loopw [8] (fun iv wx=>∃ (i:Nat) (L:List UInt8),i≤32∧iv=.int .i64 i∧L.length=32∧(∀ j,j < i→L.getD j 0=UInt8.ofNat (RW.getD (j / 4) 0 / 2 ^ (24 - 8 * (j % 4)) % 256))∧Blk wx g7 88 L∧Keeps [g7] wz wx) (fun iv _=>32 - (intOf iv).toNat)
   case atStart=>exact ⟨0,Z,Nat.zero_le _,rfl,HZL.out,fun j hj=>by omega,HZ7.out,Keeps.refl _ _⟩
   case round =>
    obtain ⟨i,L,hi,rfl,hL,hLj,hb,hkx⟩:=hrel
    have HL:=Lib.hid hL
    have HLJ:=Lib.hid hLj
    have HB:=Lib.hid hb
    have HKX:=Lib.hid hkx
    clear hL hLj hb hkx
    have i0:(0:Int)≤(i:Int):=by omega
    by_cases hlt:i < 32
    ·have i1:(i:Int) < 32:=by omega
     obtain ⟨q,hq⟩:∃ q,q=i / 4:=⟨_,rfl⟩
     obtain ⟨t,ht⟩:∃ t,t=24 - 8 * (i % 4):=⟨_,rfl⟩
     obtain ⟨x,hx⟩:∃ x,x=RW.getD q 0:=⟨_,rfl⟩
     have e1:(i:Int) / 4=(q:Int):=by omega
     have e2:24 - 8 * ((i:Int) % 4)=(t:Int):=by omega
     have q1:(q:Int) < 8:=by omega
     have q0:(0:Int)≤(q:Int):=by omega
     have t0:(t:Int) < 32:=by omega
     have e3:min t 32=t:=by omega
     have hc:wr.cell? ⟨g4,q,none⟩=some (.int .u32 x):=by rw [hx];exact (HZW.out.keeps HKX.out (by simp;exact Nat.ne_of_lt HLT.out.1)).cell q (by rw [HRW.out.2];omega)
     have hc7:wr.cell? ⟨g7,i,none⟩=some _:=HB.out.cell i (by rw [HL.out];exact hlt)
     have hf7:=HB.out.free i
     have hx32:x < 4294967296:=by rw [hx];exact hRK.out q (by omega)
     obtain ⟨y,hy⟩:∃ y,y=UInt8.ofNat (x / 2 ^ t % 256):=⟨_,rfl⟩
     obtain ⟨yn,hyn⟩:∃ yn,yn=y.toNat:=⟨_,rfl⟩
     have e4:((x:Int) / 2 ^ t % 256)=(yn:Int):=by
      rw [hyn,hy,UInt8.toNat_ofNat',Nat.mod_mod]
      simp only [Int.natCast_emod,Int.natCast_ediv,Int.natCast_pow]
      rfl
     have HY:=Lib.hid (And.intro hy (And.intro hx (And.intro hq ht)))
     have HYN:=Lib.hid hyn
     clear hy hyn hx hq ht hi
     go_wp2_with fail
     go_roundw
     case rel =>
      refine ⟨i+1,L.set i y,by omega,by go_num,by rw [List.length_set];exact HL.out,fun j hj=>?_,by rw [HYN.out];exact HB.out.set i y,HKX.out.setCell (.inl (by simp)) _⟩
      rw [getD_set' _ _ _ _ (by rw [HL.out];exact hlt)]
      by_cases e:j=i
      ·subst e
       rw [if_pos rfl,HY.out.1,HY.out.2.1,HY.out.2.2.1,HY.out.2.2.2]
      ·rw [if_neg e]
       exact HLJ.out j (by omega)
     case measure=>simp [intOf];omega
    ·have i1:¬ (i:Int) < 32:=by omega
     obtain rfl:i=32:=by omega
     have eL:L=R.bytes:=by
      rw [bytes_range]
      refine List.ext_getElem (by rw [HL.out];simp) (fun j h1 h2=>?_)
      rw [HL.out] at h1
      have h:=HLJ.out j h1
      rw [List.getD_eq_getElem?_getD,List.getElem?_eq_getElem (by rw [HL.out];exact h1)] at h
      simp only [Option.getD_some] at h
      rw [h,List.getElem_map,List.getElem_range,HRW.out.1]
     have h2:=HZ2Z.out.keeps HKX.out (by simp;exact Nat.ne_of_lt HLT.out.2)
     have HEL:=Lib.hid eL
     have HRG:=Lib.hid (rangeAt_all HB.out)
     have HST:=Lib.hid (run_store_dig h2 HZL.out HL.out)
     have HWF:=Lib.hid (dig_store (x:=L) h2 (by rw [HZL.out,HL.out]))
     have HSLL:=Lib.hid (dg_size_of HL.out)
     clear eL h2 i0 i1 hlt hi
     go_wp2_with (first | (refine wpList_load_mid rfl 88 (.tmp 7) rfl g7 0 (by rfl) (L.map B) _ HRG.out Tryz.underlying88 rfl HSLL.out ?_;try simp only [zA,zB,zC,zD,zE,zF,zG,zH]) | (refine wl_store rfl 88 (.tmp 2) (.tmp 41) rfl ?_;refine ⟨_,HST.out,?_⟩;try simp only [zA,zB,zC,zD,zE,zF,zG,zH]))
     refine bodyPost_ret (v:=.agg (L.map B).toArray) (results_row (by rfl) (by rfl) (rangeAt_all HWF.out) Tryz.underlying88 rfl HSLL.out) rfl ⟨by rw [HEL.out,HDIG.out],?_⟩
     have hk0:=HK3.out.trans (G:=[g4]) HKZ.out (fun j hj=>.inr (by simp at hj;have h1:=HG2.out;have h2:=HG24.out;omega))
     have hk1:=hk0.trans (G:=[g7]) HKX.out (fun j hj=>.inr (by simp at hj;have h1:=HG2.out;have h2:=HLT.out;omega))
     exact (hk1.setCells (.inr (by have:=HG2.out;omega)) _ _)
open Go.RowKit
def leafL (key val:List UInt8):List UInt8:=0 :: (key++val)
set_option maxRecDepth 100000 in
set_option maxHeartbeats 1600000 in
theorem leafText_any {w:World} {key val:List UInt8} {v:Value} (hkl:key.length=32) (hv:BytesAt w v val) (hvl:val.length≤2097152) :
  Calls Tryz.prog 58 #[.agg (key.map B).toArray,v] w fun e w'=>∃ rv,e=.returned rv∧BytesAt w' rv (leafL key val)∧Keeps [] w w':=by
 obtain ⟨va,vc,rfl,hvc,hvm⟩:=hv.form
 obtain ⟨q,hq⟩:∃ q,q=w.heap.size:=⟨_,rfl⟩
 obtain ⟨w1,hw1⟩:∃ x,x=w.alloc (.cells (key.map B).toArray 60 (0,0)):=⟨_,rfl⟩
 have k1:Keeps [] w w1:=by rw [hw1];exact (Keeps.refl _ _).alloc _
 have b1:Blk w1 q 60 key:=by rw [hw1];exact heap_new_at hq
 have hv1:=hv.keeps k1 (by simp)
 obtain ⟨n,hn⟩:∃ n,n=val.length:=⟨_,rfl⟩
 rw [← hn] at hvl hvc hv1 hv ⊢
 obtain ⟨m,hm⟩:∃ m,m=33+n:=⟨_,rfl⟩
 have em:33+(n:Int)=(m:Int):=by omega
 have hmk:=make_room w1 m (by omega)
 obtain ⟨w2,hw2⟩:∃ x,x=w1.alloc (.cells ((List.replicate m (0:UInt8)).map B).toArray 5 (0,0)):=⟨_,rfl⟩
 rw [← hw2] at hmk
 have k12:Keeps [] w1 w2:=by rw [hw2];exact (Keeps.refl _ _).alloc _
 obtain ⟨w3,hw3⟩:∃ x,x=w2.alloc (.cells #[.int .u8 0] 5 (0,0)):=⟨_,rfl⟩
 have k23:Keeps [] w2 w3:=by rw [hw3];exact (Keeps.refl _ _).alloc _
 have h2:w2.heap[w1.heap.size]?=some (.cells ((List.replicate m (0:UInt8)).map B).toArray 5 (0,0)):=by rw [hw2];exact heap_new_at rfl
 have ho3:w3.ownsRow w1.heap.size 5 1 (.slice (some ⟨w1.heap.size,0,none⟩) 0 m) 0 []:=owns_room ((k23.block _ (lt_of_heap h2) (by simp)).trans h2) (by omega) (Nat.le_refl _)
 have hx3:BytesAt w3 (.slice (some ⟨w2.heap.size,0,none⟩) 1 1) [0]:=.inr ⟨_,0,1,rfl,by simp,by simp [maxLen],by rw [hw3];simp,rangeAt_all (t:=5) (fr:=(0,0)) (by rw [hw3];exact heap_new_at rfl)⟩
 obtain ⟨v4,w4,hr4,ho4,hg4⟩:=run_append_bytes ho3 hx3 (by simp) (Nat.le_trans k12.size k23.size) 36
 have hk14:Keeps [] w1 w4:=(k12.trans (G:=[]) k23 (by simp)).grown hg4 (fun k hk=>.inr (World.ownsRow.lt ho3 k hk).1)
 have hbs:(Instr.buildSlice 36 1 #[(0,.int .u8 0)]).run Tryz.prog w2=.ok (.slice (some ⟨w2.heap.size,0,none⟩) 1 1) w3:=by
  obtain ⟨i,hi,h1,h2,h3⟩:=info_parts info_u8
  rw [hw3]
  refine run_buildSlice w2 _ _ _ _ _ i (.int .u8 0) Tryz.underlying36 hi h1 (by rw [h2];omega) (by rw [h2];omega) ?_
  rw [h2]
  kernel_rfl
 have hx5:BytesAt w4 (.slice (some ⟨q,0,none⟩) 32 32) key:=by
  have:=Blk.part (w:=w4) (g:=q) (t:=60) (l:=key) (b1.keeps hk14 (by simp)) 0 32 32 (by omega) (by omega) (by simp [maxLen])
  simpa [List.take_of_length_le (by omega:key.length≤32)] using this
 obtain ⟨v5,w5,hr5,ho5,hg5⟩:=run_append_bytes ho4 hx5 (by simp;omega) hk14.size 36
 have hk15:Keeps [] w1 w5:=hk14.grown hg5 (fun k hk=>.inr (World.ownsRow.lt ho4 k hk).1)
 have hx6:=hv1.keeps hk15 (by simp)
 obtain ⟨v6,w6,hr6,ho6,hg6⟩:=run_append_bytes ho5 hx6 (by simp;omega) hk15.size 36
 have hk16:Keeps [] w1 w6:=hk15.grown hg6 (fun k hk=>.inr (World.ownsRow.lt ho5 k hk).1)
 have hO:OwnB w6 v6 (leafL key val):=by
  have h:=ownsRow_base ho6
  have e1:0+([0]:List UInt8).length+key.length+val.length=(leafL key val).length:=by simp [leafL];omega
  have e2:[]++([0]:List UInt8).map B++key.map B++val.map B=(leafL key val).map B:=by simp [leafL]
  rw [e1,e2] at h
  exact h
 have HO:=Lib.hid (ownB_bytes hO)
 have HK:=Lib.hid (k1.trans (G:=[]) hk16 (by simp))
 have HAP4:=Lib.hid (run_builtin_append hr4)
 have HAP5:=Lib.hid (run_builtin_append hr5)
 have HAP6:=Lib.hid (run_builtin_append hr6)
 have HMK:=Lib.hid hmk
 have HBS:=Lib.hid hbs
 have HW1:=Lib.hid hw1
 have HQ:=Lib.hid hq
 clear hw1 hq k1 b1 hv hv1 hn hm hmk hw2 k12 hw3 k23 h2 ho3 hx3 hr4 ho4 hg4 hk14 hbs hx5 hr5 ho5 hg5 hk15 hx6 hr6 ho6 hg6 hk16 hO hkl
 go_enter Tryz.func58,Tryz.ntmps58
 go_upto_region 1 with fail
 rw [← HW1.out,← HQ.out]
 go_upto_region 2 with (first | (refine wl_makeSlice rfl 36 (.const (.int .i64 0)) (.tmp 8) rfl ?_;refine ⟨_,_,HMK.out,?_⟩;try simp only [zA,zB,zC,zD,zE,zF,zG,zH]) | (refine wl_buildSlice rfl 36 1 #[(0,.const (.int .u8 0))] #[(0,.int .u8 0)] rfl (by simp [Act.eval]) ?_;refine ⟨_,_,HBS.out,?_⟩;try simp only [zA,zB,zC,zD,zE,zF,zG,zH]) | (refine wl_builtin rfl .append #[.tmp 9,.tmp 10] #[36,36] rfl ?_;simp only [List.map_toArray,List.map_cons,List.map_nil];refine ⟨_,_,HAP4.out,?_⟩;try simp only [zA,zB,zC,zD,zE,zF,zG,zH]))
 go_wp2_with (first | (refine wl_builtin rfl .append #[.tmp 12,.tmp 13] #[36,36] rfl ?_;simp only [List.map_toArray,List.map_cons,List.map_nil];refine ⟨_,_,HAP5.out,?_⟩;try simp only [zA,zB,zC,zD,zE,zF,zG,zH]) | (refine wl_builtin rfl .append #[.tmp 14,.tmp 15] #[36,36] rfl ?_;simp only [List.map_toArray,List.map_cons,List.map_nil];refine ⟨_,_,HAP6.out,?_⟩;try simp only [zA,zB,zC,zD,zE,zF,zG,zH]))
 go_ret
 exact ⟨v6,rfl,HO.out,HK.out⟩
def leafD (k:Nat) (key val:List UInt8):List UInt8:=cutL (shaL (leafL key val)) k
set_option maxRecDepth 100000 in
set_option maxHeartbeats 1600000 in
theorem leaf_any {w:World} {key val:List UInt8} {v:Value} (hkl:key.length=32) (hv:BytesAt w v val) (hvl:val.length≤2097152) (n:Int) (n0:-9223372036854775808≤n) (n1:n≤9223372036854775807) (k:Nat) (hk:(k:Int)=max 0 (min n 32)) (ht:Tabs w) :
  Calls Tryz.prog 29 #[.int .i64 n,.agg (key.map B).toArray,v] w fun e w'=>e=.returned (.agg ((leafD k key val).map B).toArray)∧Keeps [] w w':=by
 obtain ⟨va,vc,rfl,hvc,hvm⟩:=hv.form
 obtain ⟨D,hD⟩:∃ D,D=leafD k key val:=⟨_,rfl⟩
 have hDl:D.length=32:=by rw [hD];exact cutL_length (shaL_length _) (by omega)
 rw [← hD]
 obtain ⟨q,hq⟩:∃ q,q=w.heap.size:=⟨_,rfl⟩
 obtain ⟨q6,hq6⟩:∃ q,q=(w.alloc (.cells (key.map B).toArray 60 (0,0))).heap.size:=⟨_,rfl⟩
 obtain ⟨X,hX,hXi⟩:∃ X:Array Value,X=Array.replicate 32 (.int .u8 0)∧(Tryz.prog.info? 88).map (fun i=>(i.zero,i.size,i.bytes))=some (some (.agg X),32,32):=⟨_,rfl,info_digest⟩
 obtain ⟨w1,hw1⟩:∃ x,x=(w.alloc (.cells (key.map B).toArray 60 (0,0))).alloc (.cells X 88 (0,0)):=⟨_,rfl⟩
 have k1:Keeps [] w w1:=by rw [hw1];exact ((Keeps.refl _ _).alloc _).alloc _
 have b1:Blk w1 q 60 key:=by rw [hw1];exact (heap_old_at (by simp;omega)).trans (heap_new_at hq)
 have b6:w1.heap[q6]?=some (.cells (Array.replicate 32 (Value.int .u8 0)) 88 (0,0)):=by rw [hw1,← hX];exact heap_new_at hq6
 have HTX:=Lib.hid (leafText_any (w:=w1) hkl (hv.keeps k1 (by simp)) hvl)
 have HT1:=Lib.hid (ht.keeps k1 (by simp) (by simp))
 have HCUT:=Lib.hid (fun (wx:World)=>cut_any (w:=wx) (shaL_length (leafL key val)) n n0 n1 k (by omega))
 have HSK:=Lib.hid (size_key_of hkl)
 have HSD:=Lib.hid (show (Tryz.prog.info? 88).map (·.size)=some (D.map B).length by rw [List.length_map,hDl];exact dg_size)
 have HD:=Lib.hid (show D=cutL (shaL (leafL key val)) k from hD)
 have HDL:=Lib.hid hDl
 have HW1:=Lib.hid hw1
 have HQ:=Lib.hid hq
 have HQ6:=Lib.hid hq6
 have HXI:=Lib.hid hXi
 have HB1:=Lib.hid b1
 have HB6:=Lib.hid b6
 have HK1:=Lib.hid k1
 have HQL:=Lib.hid (show w.heap.size≤q6 by rw [hq6];simp)
 clear hD hDl hq hq6 hX hXi hw1 k1 b1 b6 hkl hk ht hv hvl hvc hvm
 go_enter Tryz.func29,Tryz.ntmps29
 go_upto_region 1 with (first | (refine wl_alloc rfl 88 rfl ?_;refine ⟨_,_,run_alloc _ HXI.out,?_⟩;try simp only [zA,zB,zC,zD,zE,zF,zG,zH]))
 try simp only [Value.cells]
 rw [← HW1.out,← HQ6.out,← HQ.out]
 go_wp2_with (first | (refine wpList_load_mid rfl 60 (.tmp 4) rfl q 0 (by rfl) (key.map B) _ (rangeAt_all HB1.out) Tryz.underlying60 rfl HSK.out ?_;try simp only [zA,zB,zC,zD,zE,zF,zG,zH]) | (go_at_call 58;refine HTX.out.mono ?_;rintro e w2 ⟨rv,rfl,hrv,hk2⟩) | (go_at_call 57;refine (shaSum_any hrv (HT1.out.keeps hk2 (by simp) (by simp))).mono ?_;rintro e w3 ⟨rfl,hk3⟩) | (go_at_call 55;refine (HCUT.out w3).mono ?_;rintro e w4 ⟨rfl,hk4⟩;rw [← HD.out]) | (refine wl_store rfl 88 (.tmp 6) (.tmp 12) rfl ?_;refine ⟨_,dg_run_store ((((hk2.trans (G:=[]) hk3 (by simp)).trans (G:=[]) hk4 (by simp)).block _ (lt_of_heap HB6.out) (by simp)).trans HB6.out) HDL.out,?_⟩;try simp only [zA,zB,zC,zD,zE,zF,zG,zH]))
 have hb4:=(((hk2.trans (G:=[]) hk3 (by simp)).trans (G:=[]) hk4 (by simp)).block _ (lt_of_heap HB6.out) (by simp)).trans HB6.out
 refine bodyPost_ret (results_row (cs:=D.map B) rfl rfl (rangeAt_all (dg_store hb4 HDL.out)) Tryz.underlying88 rfl HSD.out) rfl ⟨rfl,?_⟩
 exact (HK1.out.trans (G:=[]) ((hk2.trans (G:=[]) hk3 (by simp)).trans (G:=[]) hk4 (by simp)) (by simp)).setCells (.inr HQL.out) _ _
open Go.RowKit
def climbStep (k:Nat) (key:List UInt8) (h:Nat) (d:List UInt8):List UInt8:=if bitK key (255 - h)=0 then branchD k d (emptyD k h) else branchD k (emptyD k h) d
def climbN (k:Nat) (key:List UInt8) (f:Nat) (d:List UInt8):Nat→List UInt8
 | 0=>d
 | n+1=>climbStep k key (f+n) (climbN k key f d n)
def climbD (k:Nat) (key:List UInt8) (f:Nat) (d:List UInt8) (t:Nat):List UInt8:=climbN k key f (cutL d k) (t - f)
theorem climbStep_length {k:Nat} (hk:k≤32) (key:List UInt8) (h:Nat) (d:List UInt8):(climbStep k key h d).length=32:=by
 unfold climbStep
 split <;> exact cutL_length (shaL_length _) hk
theorem climbN_length {k:Nat} (hk:k≤32) {key:List UInt8} {f:Nat} {d:List UInt8} (hd:d.length=32):∀ n,(climbN k key f d n).length=32
 | 0=>hd
 | n+1=>climbStep_length hk _ _ _
set_option maxRecDepth 100000 in
set_option maxHeartbeats 3200000 in
theorem climb_any {w:World} {key d:List UInt8} (hkl:key.length=32) (hd:d.length=32) (n:Int) (n0:-9223372036854775808≤n) (n1:n≤9223372036854775807) (k:Nat) (hk:(k:Int)=max 0 (min n 32)) (ht:Tabs w) (f t:Nat) (hf:f≤256) (ht2:t≤256) :
  Calls Tryz.prog 28 #[.int .i64 n,.agg (key.map B).toArray,.int .i64 f,.agg (d.map B).toArray,.int .i64 t] w fun e w'=>e=.returned (.agg ((climbD k key f d t).map B).toArray)∧Keeps [] w w':=by
 have hk32:k≤32:=by omega
 obtain ⟨D,hD⟩:∃ D,D=climbD k key f d t:=⟨_,rfl⟩
 rw [← hD]
 have HD:=Lib.hid hD
 clear hD
 obtain ⟨X,hX,hXi⟩:∃ X:Array Value,X=Array.replicate 32 (.int .u8 0)∧(Tryz.prog.info? 88).map (fun i=>(i.zero,i.size,i.bytes))=some (some (.agg X),32,32):=⟨_,rfl,info_digest⟩
 obtain ⟨q6,hq6⟩:∃ q,q=w.heap.size:=⟨_,rfl⟩
 obtain ⟨q8,hq8⟩:∃ q,q=w.heap.size+1:=⟨_,rfl⟩
 obtain ⟨q10,hq10⟩:∃ q,q=w.heap.size+2:=⟨_,rfl⟩
 obtain ⟨w0,hw0⟩:∃ x,x=(w.alloc (.cells (key.map B).toArray 60 (0,0))).alloc (.cells (d.map B).toArray 88 (0,0)):=⟨_,rfl⟩
 obtain ⟨w1,hw1⟩:∃ x,x=w0.alloc (.cells X 88 (0,0)):=⟨_,rfl⟩
 have hs0:w0.heap.size=q10:=by rw [hw0,hq10];simp
 have k0:Keeps [] w w0:=by rw [hw0];exact ((Keeps.refl _ _).alloc _).alloc _
 have k01:Keeps [] w0 w1:=by rw [hw1];exact (Keeps.refl _ _).alloc _
 have k1:Keeps [] w w1:=k0.trans (G:=[]) k01 (by simp)
 have b60:Blk w0 q6 60 key:=by rw [hw0];exact (heap_old_at (by simp;omega)).trans (heap_new_at hq6)
 have b80:Blk w0 q8 88 d:=by rw [hw0];exact heap_new_at (by simp;exact hq8)
 have b6:=b60.keeps k01 (by simp)
 have b8:=b80.keeps k01 (by simp)
 have b10:w1.heap[q10]?=some (.cells (Array.replicate 32 (Value.int .u8 0)) 88 (0,0)):=by rw [hw1,← hX];exact heap_new_at hs0.symm
 have HCUT:=Lib.hid (fun (wx:World)=>cut_any (w:=wx) hd n n0 n1 k (by omega))
 have HEM:=Lib.hid (fun (wx:World) (hx:Tabs wx)=>emptyD_any (w:=wx) n n0 n1 k hk hx f hf)
 have HBRN:=Lib.hid (fun (wx:World) (l r:List UInt8) (hl:l.length=32) (hr:r.length=32) (hx:Tabs wx)=>branch_any (w:=wx) hl hr n n0 n1 k hk hx)
 have HT:=Lib.hid ht
 have HSK:=Lib.hid (size_key_of hkl)
 have HSDD:=Lib.hid (dg_size_of hd)
 have HW0:=Lib.hid hw0
 have HW1:=Lib.hid hw1
 have HS0:=Lib.hid hs0
 have HQ:=Lib.hid (And.intro hq6 (And.intro hq8 hq10))
 have HX:=Lib.hid hX
 have HXI:=Lib.hid hXi
 have HB6:=Lib.hid b6
 have HB8:=Lib.hid b8
 have HB10:=Lib.hid b10
 have HK1:=Lib.hid k1
 have HKL:=Lib.hid hkl
 have HDL:=Lib.hid hd
 clear hX hXi hq6 hq8 hq10 hw0 hw1 hs0 k0 k01 k1 b60 b80 b6 b8 b10 hk ht hkl hd
 go_enter Tryz.func28,Tryz.ntmps28
 go_upto_region 1 with (first | (refine wl_alloc rfl 88 rfl ?_;refine ⟨_,_,run_alloc _ HXI.out,?_⟩;(try simp only [Value.cells]);rw [← HW0.out,← HW1.out,HS0.out];try simp only [zA,zB,zC,zD,zE,zF,zG,zH]))
 rw [← HQ.out.2.1,← HQ.out.1]
 obtain ⟨C0,hC0⟩:∃ C,C=cutL d k:=⟨_,rfl⟩
 have hC0l:C0.length=32:=by rw [hC0];exact cutL_length HDL.out hk32
 have HWF:=Lib.hid (show max 0 (min (f:Int) 256)=(f:Int) by omega)
 have HWT:=Lib.hid (show max 0 (min (t:Int) 256)=(t:Int) by omega)
 have HC0:=Lib.hid hC0
 have HC0L:=Lib.hid hC0l
 clear hC0 hC0l
 go_upto_region 3 with (first | (refine wpList_load_mid rfl 88 (.tmp 8) rfl q8 0 (by rfl) (d.map B) _ (rangeAt_all HB8.out) Tryz.underlying88 rfl HSDD.out ?_;try simp only [zA,zB,zC,zD,zE,zF,zG,zH]) | (go_at_call 55;refine (HCUT.out _).mono ?_;rintro e w2 ⟨rfl,hk2⟩;rw [← HC0.out]) | (refine wl_store rfl 88 (.tmp 8) (.tmp 17) rfl ?_;refine ⟨_,dg_run_store2 (HB8.out.keeps hk2 (by simp)) HDL.out HC0L.out,?_⟩;try simp only [zA,zB,zC,zD,zE,zF,zG,zH]) | (go_at_call 56;refine (within_any _ _ _).mono ?_;rintro e w' ⟨rfl,rfl⟩;first | rw [HWF.out] | rw [HWT.out]))
 obtain ⟨w3,hw3⟩:∃ x,x=w2.setCells q8 0 (C0.map B):=⟨_,rfl⟩
 have k23:Keeps [q8] w2 w3:=by rw [hw3];exact (Keeps.refl _ _).setCells (.inl (by simp)) _ _
 have hne:q6≠q8∧q8≠q10∧w.heap.size≤q8∧w.heap.size≤q10:=by have:=HQ.out;omega
 have k13:Keeps [q8] w1 w3:=(hk2.mono (by simp)).trans (G:=[q8]) k23 (fun j hj=>.inl hj)
 have b83:Blk w3 q8 88 C0:=by rw [hw3];exact dg_store2 (HB8.out.keeps hk2 (by simp)) HDL.out HC0L.out
 have b63:=HB6.out.keeps k13 (by simp;omega)
 have b103:=(k13.block q10 (lt_of_heap HB10.out) (by simp;omega)).trans HB10.out
 have k03:Keeps [] w w3:=HK1.out.trans (G:=[q8]) k13 (fun j hj=>.inr (by simp at hj;subst hj;omega))
 have hgl:=HT.out.lt
 have HGL:=Lib.hid (show (2≠q8∧2 < w.heap.size)∧(0≠q8∧0 < w.heap.size) by omega)
 have HB83:=Lib.hid b83
 have HB63:=Lib.hid b63
 have HB103:=Lib.hid b103
 have HK3:=Lib.hid k03
 have HNQ:=Lib.hid hne
 have HT3:=Lib.hid (HT.out.keeps k03 (by simp) (by simp))
 have HSC:=Lib.hid (dg_size_of HC0L.out)
 rw [← hw3]
 clear hw3 k23 hne k13 b83 b63 b103 k03 hgl hk2
 by_cases hft:t≤f
 ·have hDC:D=C0:=by rw [HD.out,HC0.out];unfold climbD;rw [show t - f=0 by omega];rfl
  subst hDC
  go_wp2_with (first | (refine wpList_load_mid rfl 88 (.tmp 8) rfl q8 0 (by rfl) (D.map B) _ (rangeAt_all HB83.out) Tryz.underlying88 rfl HSC.out ?_;try simp only [zA,zB,zC,zD,zE,zF,zG,zH]) | (refine wl_store rfl 88 (.tmp 10) (.tmp 25) rfl ?_;refine ⟨_,dg_run_store HB103.out HC0L.out,?_⟩;try simp only [zA,zB,zC,zD,zE,zF,zG,zH]))
  refine bodyPost_ret (results_row (cs:=D.map B) rfl rfl (rangeAt_all (dg_store HB103.out HC0L.out)) Tryz.underlying88 rfl HSC.out) rfl ⟨rfl,?_⟩
  exact HK3.out.setCells (.inr HNQ.out.2.2.2) _ _
 ·have hDC:D=climbN k key f C0 (t - f):=by rw [HD.out,HC0.out];rfl
  have HDC:=Lib.hid hDC
  clear hDC
  obtain ⟨E0,hE0⟩:∃ E,E=emptyD k f:=⟨_,rfl⟩
  have hE0l:E0.length=32:=by rw [hE0];exact emptyD_length hk32 f
  have hem:=HEM.out w3 HT3.out
  rw [← hE0] at hem
  have HEM3:=Lib.hid hem
  have HE0:=Lib.hid hE0
  have HE0L:=Lib.hid hE0l
  clear hem hE0 hE0l
  go_upto_region 6 with (first | (go_at_call 50;refine HEM3.out.mono ?_;rintro e w4 ⟨rfl,hk4⟩) | (refine wl_alloc rfl 88 rfl ?_;refine ⟨_,_,run_alloc _ HXI.out,?_⟩;(try simp only [Value.cells]);try simp only [zA,zB,zC,zD,zE,zF,zG,zH]) | (refine wl_store rfl 88 (.tmp 13) (.tmp 28) rfl ?_;refine ⟨_,dg_run_store (heap_new_at rfl |>.trans (by rw [HX.out])) HE0L.out,?_⟩;try simp only [zA,zB,zC,zD,zE,zF,zG,zH]))
  obtain ⟨q13,hq13⟩:∃ x,x=w4.heap.size:=⟨_,rfl⟩
  obtain ⟨w5,hw5⟩:∃ x,x=(w4.alloc (.cells X 88 (0,0))).setCells q13 0 (E0.map B):=⟨_,rfl⟩
  have b135:Blk w5 q13 88 E0:=by
   rw [hw5]
   exact dg_store ((heap_new_at hq13).trans (by rw [HX.out])) HE0L.out
  have k45:Keeps [] w4 w5:=by rw [hw5];exact ((Keeps.refl _ _).alloc _).setCells (.inr (by rw [hq13];exact Nat.le_refl _)) _ _
  have k35:Keeps [] w3 w5:=hk4.trans (G:=[]) k45 (by simp)
  have hlt:q6 < q13∧q8 < q13∧q10 < q13:=by
   have h1:=HB63.out.lt
   have h2:=HB83.out.lt
   have h3:=lt_of_heap HB103.out
   have h4:=hk4.size
   omega
  have H85:=Lib.hid (HB83.out.keeps k35 (by simp))
  have H65:=Lib.hid (HB63.out.keeps k35 (by simp))
  have H105:=Lib.hid ((k35.block q10 (lt_of_heap HB103.out) (by simp)).trans HB103.out)
  have H135:=Lib.hid b135
  have HK5:=Lib.hid (HK3.out.trans (G:=[]) k35 (by simp))
  have HT5:=Lib.hid (HT3.out.keeps k35 (by simp) (by simp))
  have HNE:=Lib.hid hlt
  have HGM:=Lib.hid (show 2≠q13∧0≠q13 by have:=HGL.out;have:=HK3.out.size;have:=hk4.size;omega)
  rw [← hq13]
  rw [← hw5]
  clear hq13 hw5 b135 k45 k35 hlt hk4 HB83 HB63 HB103 HK3 HEM3
  go_wp2_with fail
  go_loopw [14] (fun iv wr=>∃ h:Nat,f≤h∧h≤t∧iv=.int .i64 h∧Blk wr q8 88 (climbN k key f C0 (h - f))∧Blk wr q13 88 (emptyD k h)∧Keeps [q8,q13] w5 wr) (fun iv _=>t - (intOf iv).toNat)
  case atStart =>
   refine ⟨f,Nat.le_refl _,by omega,rfl,?_,?_,Keeps.refl _ _⟩
   ·rw [Nat.sub_self];exact H85.out
   ·rw [← HE0.out];exact H135.out
  case round =>
   obtain ⟨h,hfh,hht,rfl,h8,h13,hkr⟩:=hrel
   have h6:=H65.out.keeps hkr (by simp;have:=HNE.out;have:=HNQ.out;omega)
   by_cases hlt:h < t
   ·obtain ⟨A,hA⟩:∃ A,A=climbN k key f C0 (h - f):=⟨_,rfl⟩
    obtain ⟨E,hE⟩:∃ E,E=emptyD k h:=⟨_,rfl⟩
    obtain ⟨A1,hA1⟩:∃ A1,A1=climbStep k key h (climbN k key f C0 (h - f)):=⟨_,rfl⟩
    obtain ⟨E1,hE1⟩:∃ E1,E1=branchD k E E:=⟨_,rfl⟩
    rw [← hA] at h8
    rw [← hE] at h13
    have hla:A.length=32∧A1.length=32∧E.length=32∧E1.length=32:=⟨by rw [hA];exact climbN_length hk32 HC0L.out _,by rw [hA1];exact climbStep_length hk32 _ _ _,by rw [hE];exact emptyD_length hk32 h,by rw [hE1];exact cutL_length (shaL_length _) hk32⟩
    have HSA:=Lib.hid (dg_size_of hla.1)
    have HSE:=Lib.hid (dg_size_of hla.2.2.1)
    have HLA:=Lib.hid hla
    have H8:=Lib.hid h8
    have H13:=Lib.hid h13
    have H6:=Lib.hid h6
    have HKR:=Lib.hid hkr
    have HTR:=Lib.hid (HT5.out.keeps hkr (by simp;have:=HGL.out;have:=HGM.out;omega) (by simp;have:=HGL.out;have:=HGM.out;omega))
    have HA1:=Lib.hid hA1
    have HE1:=Lib.hid hE1
    have HEE:=Lib.hid hE
    clear h8 h13 h6 hkr hla hE1
    rcases bitK_cases key (255 - h) with hb0 | hb1
    ·rw [← hA] at hA1
     have hbit:=baBit_any (w:=wr) HKL.out (255 - h) (by omega)
     rw [show (((255 - h:Nat)):Int)=255 - (h:Int) by omega,show ((bitK key (255 - h):Nat):Int)=0 by rw [hb0];rfl] at hbit
     have hstep:A1=branchD k A E:=by rw [hA1];unfold climbStep;rw [if_pos hb0,hE]
     have HBIT:=Lib.hid hbit
     have HSTEP:=Lib.hid hstep
     clear hbit hstep hb0 hA hE hA1
     go_upto_region 12 with (first | (refine wpList_load_mid rfl 60 (.tmp 6) rfl q6 0 (by rfl) (key.map B) _ (rangeAt_all H6.out) Tryz.underlying60 rfl HSK.out ?_;try simp only [zA,zB,zC,zD,zE,zF,zG,zH]) | (go_at_call 53;refine HBIT.out.mono ?_;rintro e w5 ⟨rfl,hk5⟩) | (refine wpList_load_mid rfl 88 (.tmp 8) rfl q8 0 (by rfl) (A.map B) _ (rangeAt_all (H8.out.keeps hk5 (by simp))) Tryz.underlying88 rfl HSA.out ?_;try simp only [zA,zB,zC,zD,zE,zF,zG,zH]) | (refine wpList_load_mid rfl 88 (.tmp 13) rfl q13 0 (by rfl) (E.map B) _ (rangeAt_all (H13.out.keeps hk5 (by simp))) Tryz.underlying88 rfl HSE.out ?_;try simp only [zA,zB,zC,zD,zE,zF,zG,zH]) | (go_at_call 51;refine (HBRN.out w5 A E HLA.out.1 HLA.out.2.2.1 (HTR.out.keeps hk5 (by simp) (by simp))).mono ?_;rintro e w6 ⟨rfl,hk6⟩;rw [← HSTEP.out]) | (refine wl_store rfl 88 (.tmp 8) (.tmp 43) rfl ?_;refine ⟨_,dg_run_store2 ((H8.out.keeps hk5 (by simp)).keeps hk6 (by simp)) HLA.out.1 HLA.out.2.1,?_⟩;try simp only [zA,zB,zC,zD,zE,zF,zG,zH]))
     obtain ⟨w7,hw7⟩:∃ x,x=w6.setCells q8 0 (A1.map B):=⟨_,rfl⟩
     have k67:Keeps [q8] w6 w7:=by rw [hw7];exact (Keeps.refl _ _).setCells (.inl (by simp)) _ _
     have k57:Keeps [q8] wr w7:=((hk5.trans (G:=[]) hk6 (by simp)).mono (by simp)).trans (G:=[q8]) k67 (fun j hj=>.inl hj)
     have h87:Blk w7 q8 88 A1:=by rw [hw7];exact dg_store2 ((H8.out.keeps hk5 (by simp)).keeps hk6 (by simp)) HLA.out.1 HLA.out.2.1
     have h137:=H13.out.keeps k57 (by simp;have:=HNE.out;omega)
     have H87:=Lib.hid h87
     have H137:=Lib.hid h137
     have HK7:=Lib.hid k57
     have HT7:=Lib.hid (HTR.out.keeps k57 (by simp;exact HGL.out.1.1) (by simp;exact HGL.out.2.1))
     rw [← hw7]
     clear hk5 hk6 hw7 k67 k57 h87 h137
     go_wp2_with (first | (refine wpList_load_mid rfl 88 (.tmp 13) rfl q13 0 (by rfl) (E.map B) _ (rangeAt_all H137.out) Tryz.underlying88 rfl HSE.out ?_;try simp only [zA,zB,zC,zD,zE,zF,zG,zH]) | (go_at_call 51;refine (HBRN.out w7 E E HLA.out.2.2.1 HLA.out.2.2.1 HT7.out).mono ?_;rintro e w8 ⟨rfl,hk8⟩;rw [← HE1.out]) | (refine wl_store rfl 88 (.tmp 13) (.tmp 51) rfl ?_;refine ⟨_,dg_run_store2 (H137.out.keeps hk8 (by simp)) HLA.out.2.2.1 HLA.out.2.2.2,?_⟩;try simp only [zA,zB,zC,zD,zE,zF,zG,zH]))
     go_roundw
     case rel =>
      have k89:Keeps [q13] w7 (w8.setCells q13 0 (E1.map B)):=(hk8.mono (G:=[q13]) (by simp)).setCells (.inl (by simp)) _ _
      refine ⟨h+1,by omega,by omega,by go_num,?_,?_,(HKR.out.trans (G:=[q8]) HK7.out (fun k hk=>.inl (by simp at hk;simp [hk]))).trans (G:=[q13]) k89 (fun k hk=>.inl (by simp at hk;simp [hk]))⟩
      ·rw [show h+1 - f=(h - f)+1 by omega]
       have:=H87.out.keeps k89 (by simp;have:=HNE.out;omega)
       rw [show climbN k key f C0 (h - f+1)=A1 by rw [HA1.out];show climbStep _ _ (f+(h - f)) _=_;rw [show f+(h - f)=h by omega]]
       exact this
      ·rw [show emptyD k (h+1)=E1 by rw [HE1.out,HEE.out];rfl]
       exact dg_store2 (H137.out.keeps hk8 (by simp)) HLA.out.2.2.1 HLA.out.2.2.2
     case measure=>simp [intOf];omega
    ·rw [← hA] at hA1
     have hbit:=baBit_any (w:=wr) HKL.out (255 - h) (by omega)
     rw [show (((255 - h:Nat)):Int)=255 - (h:Int) by omega,show ((bitK key (255 - h):Nat):Int)=1 by rw [hb1];rfl] at hbit
     have hstep:A1=branchD k E A:=by rw [hA1];unfold climbStep;rw [if_neg (by omega),hE]
     have HBIT:=Lib.hid hbit
     have HSTEP:=Lib.hid hstep
     clear hbit hstep hb1 hA hE hA1
     go_upto_region 12 with (first | (refine wpList_load_mid rfl 60 (.tmp 6) rfl q6 0 (by rfl) (key.map B) _ (rangeAt_all H6.out) Tryz.underlying60 rfl HSK.out ?_;try simp only [zA,zB,zC,zD,zE,zF,zG,zH]) | (go_at_call 53;refine HBIT.out.mono ?_;rintro e w5 ⟨rfl,hk5⟩) | (refine wpList_load_mid rfl 88 (.tmp 8) rfl q8 0 (by rfl) (A.map B) _ (rangeAt_all (H8.out.keeps hk5 (by simp))) Tryz.underlying88 rfl HSA.out ?_;try simp only [zA,zB,zC,zD,zE,zF,zG,zH]) | (refine wpList_load_mid rfl 88 (.tmp 13) rfl q13 0 (by rfl) (E.map B) _ (rangeAt_all (H13.out.keeps hk5 (by simp))) Tryz.underlying88 rfl HSE.out ?_;try simp only [zA,zB,zC,zD,zE,zF,zG,zH]) | (go_at_call 51;refine (HBRN.out w5 E A HLA.out.2.2.1 HLA.out.1 (HTR.out.keeps hk5 (by simp) (by simp))).mono ?_;rintro e w6 ⟨rfl,hk6⟩;rw [← HSTEP.out]) | (refine wl_store rfl 88 (.tmp 8) (.tmp 47) rfl ?_;refine ⟨_,dg_run_store2 ((H8.out.keeps hk5 (by simp)).keeps hk6 (by simp)) HLA.out.1 HLA.out.2.1,?_⟩;try simp only [zA,zB,zC,zD,zE,zF,zG,zH]))
     obtain ⟨w7,hw7⟩:∃ x,x=w6.setCells q8 0 (A1.map B):=⟨_,rfl⟩
     have k67:Keeps [q8] w6 w7:=by rw [hw7];exact (Keeps.refl _ _).setCells (.inl (by simp)) _ _
     have k57:Keeps [q8] wr w7:=((hk5.trans (G:=[]) hk6 (by simp)).mono (by simp)).trans (G:=[q8]) k67 (fun j hj=>.inl hj)
     have h87:Blk w7 q8 88 A1:=by rw [hw7];exact dg_store2 ((H8.out.keeps hk5 (by simp)).keeps hk6 (by simp)) HLA.out.1 HLA.out.2.1
     have h137:=H13.out.keeps k57 (by simp;have:=HNE.out;omega)
     have H87:=Lib.hid h87
     have H137:=Lib.hid h137
     have HK7:=Lib.hid k57
     have HT7:=Lib.hid (HTR.out.keeps k57 (by simp;exact HGL.out.1.1) (by simp;exact HGL.out.2.1))
     rw [← hw7]
     clear hk5 hk6 hw7 k67 k57 h87 h137
     go_wp2_with (first | (refine wpList_load_mid rfl 88 (.tmp 13) rfl q13 0 (by rfl) (E.map B) _ (rangeAt_all H137.out) Tryz.underlying88 rfl HSE.out ?_;try simp only [zA,zB,zC,zD,zE,zF,zG,zH]) | (go_at_call 51;refine (HBRN.out w7 E E HLA.out.2.2.1 HLA.out.2.2.1 HT7.out).mono ?_;rintro e w8 ⟨rfl,hk8⟩;rw [← HE1.out]) | (refine wl_store rfl 88 (.tmp 13) (.tmp 51) rfl ?_;refine ⟨_,dg_run_store2 (H137.out.keeps hk8 (by simp)) HLA.out.2.2.1 HLA.out.2.2.2,?_⟩;try simp only [zA,zB,zC,zD,zE,zF,zG,zH]))
     go_roundw
     case rel =>
      have k89:Keeps [q13] w7 (w8.setCells q13 0 (E1.map B)):=(hk8.mono (G:=[q13]) (by simp)).setCells (.inl (by simp)) _ _
      refine ⟨h+1,by omega,by omega,by go_num,?_,?_,(HKR.out.trans (G:=[q8]) HK7.out (fun k hk=>.inl (by simp at hk;simp [hk]))).trans (G:=[q13]) k89 (fun k hk=>.inl (by simp at hk;simp [hk]))⟩
      ·rw [show h+1 - f=(h - f)+1 by omega]
       have:=H87.out.keeps k89 (by simp;have:=HNE.out;omega)
       rw [show climbN k key f C0 (h - f+1)=A1 by rw [HA1.out];show climbStep _ _ (f+(h - f)) _=_;rw [show f+(h - f)=h by omega]]
       exact this
      ·rw [show emptyD k (h+1)=E1 by rw [HE1.out,HEE.out];rfl]
       exact dg_store2 (H137.out.keeps hk8 (by simp)) HLA.out.2.2.1 HLA.out.2.2.2
     case measure=>simp [intOf];omega
   ·have e:h=t:=by omega
    subst e
    have h10:=(hkr.block q10 (lt_of_heap H105.out) (by simp;have:=HNE.out;have:=HNQ.out;omega)).trans H105.out
    rw [← HDC.out] at h8
    have hDl:D.length=32:=by rw [HDC.out];exact climbN_length hk32 HC0L.out _
    have H8:=Lib.hid h8
    have H10:=Lib.hid h10
    have HSD:=Lib.hid (dg_size_of hDl)
    have HDL2:=Lib.hid hDl
    have HKK:=Lib.hid (HK5.out.trans (G:=[q8,q13]) hkr (fun k hk=>.inr (by have:=HNQ.out;have:=HNE.out;simp at hk;rcases hk with rfl | rfl <;> omega)))
    clear h8 h10 h13 h6 hkr hDl
    go_wp2_with (first | (refine wpList_load_mid rfl 88 (.tmp 8) rfl q8 0 (by rfl) (D.map B) _ (rangeAt_all H8.out) Tryz.underlying88 rfl HSD.out ?_;try simp only [zA,zB,zC,zD,zE,zF,zG,zH]) | (refine wl_store rfl 88 (.tmp 10) (.tmp 52) rfl ?_;refine ⟨_,dg_run_store H10.out HDL2.out,?_⟩;try simp only [zA,zB,zC,zD,zE,zF,zG,zH]))
    refine bodyPost_ret (results_row (cs:=D.map B) rfl rfl (rangeAt_all (dg_store H10.out HDL2.out)) Tryz.underlying88 rfl HSD.out) rfl ⟨rfl,?_⟩
    exact HKK.out.setCells (.inr HNQ.out.2.2.2) _ _
end Go.Proofs.YtakaocenbempmaaGreatDoor
