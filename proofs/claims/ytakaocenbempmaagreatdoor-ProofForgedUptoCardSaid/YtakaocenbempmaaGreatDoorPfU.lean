/-
  Lemmas of a claim, bundle U: XR9A XPrB XNdE XPrC XPrD XPrE XPrF XNdH XNdI.
-/
import Derived.Test.YtakaocenbempmaaGreatDoorPfP
import Derived.Test.YtakaocenbempmaaGreatDoorPfQ
import Derived.Test.YtakaocenbempmaaGreatDoorPfT
import Derived.Test.YtakaocenbempmaaGreatDoorPfK
import Derived.Test.YtakaocenbempmaaGreatDoorPfI
import Derived.Test.YtakaocenbempmaaGreatDoorPfC
set_option linter.unusedVariables false
set_option linter.unusedSimpArgs false
namespace Go.Proofs.YtakaocenbempmaaGreatDoor
open Go.RowKit
theorem owns_full {w:World} {g:Nat} {l:List UInt8} (h:w.heap[g]?=some (.cells (l.map B).toArray 5 (0,0))) (hm:l.length≤33554432) {base:Nat} (hb:base≤g):w.ownsRow base 5 1 (.slice (some ⟨g,0,none⟩) l.length l.length) l.length (l.map B) :=
 ⟨by simp,.inr ⟨g,l.length,_,rfl,hb,h,Nat.le_refl _,by simp only [maxLen];omega,by simp,by simp [List.take_of_length_le]⟩⟩
theorem owns_one {w:World} (b:UInt8) {base:Nat} (hb:base≤w.heap.size):(w.alloc (.cells #[B b] 5 (0,0))).ownsRow base 5 1 (.slice (some ⟨w.heap.size,0,none⟩) 1 1) 1 ([b].map B) :=
 owns_full (l:=[b]) (heap_new_at rfl) (by simp) hb
theorem blk_cell {w:World} {g k:Nat} {t:TypeId} {l:List UInt8} (h:Blk w g t l) {x:UInt8} (hx:l[k]?=some x):w.cell? ⟨g,k,none⟩=some (.int .u8 x.toNat):=by
 obtain ⟨hk,rfl⟩:=List.getElem?_eq_some_iff.1 hx
 exact h.cell k hk
theorem take_snoc {l:List UInt8} {k:Nat} {x:UInt8} (hx:l[k]?=some x):l.take k++[x]=l.take (k+1):=by
 rw [List.take_add_one,hx]
 rfl
set_option maxRecDepth 100000 in
theorem r9Within_any {w:World} (n lo hi:Int):Calls Tryz.prog 63 #[.int .i64 n,.int .i64 lo,.int .i64 hi] w fun e w'=>e=.returned (.int .i64 (if n < lo then lo else if hi < n then hi else n))∧w=w':=by
 go_enter Tryz.func63,Tryz.ntmps63
 by_cases h1:n < lo
 ·rw [if_pos h1]
  go_wp2_with fail
  go_ret
  exact ⟨rfl,rfl⟩
 ·rw [if_neg h1]
  by_cases h2:hi < n
  ·rw [if_pos h2]
   go_wp2_with fail
   go_ret
   exact ⟨rfl,rfl⟩
  ·rw [if_neg h2]
   go_wp2_with fail
   go_ret
   exact ⟨rfl,rfl⟩
set_option maxRecDepth 100000 in
set_option maxHeartbeats 1600000 in
theorem r9LeafText_any {w:World} {key val:List UInt8} {v:Value} (hk:key.length=32) (hv:BytesAt w v val) (hl:val.length≤1048576) :
  Calls Tryz.prog 62 #[.agg (key.map B).toArray,v] w fun e w'=>∃ v',e=.returned v'∧OwnB w' v' (leafL key val)∧(∀ k,v'.ownBlock=some k→w.heap.size≤k)∧Keeps [] w w':=by
 obtain ⟨a,c,rfl,hc,hm⟩:=hv.form
 obtain ⟨n,hn⟩:∃ n,n=val.length:=⟨_,rfl⟩
 rw [← hn] at hl hc ⊢
 obtain ⟨g2,hg2⟩:∃ x,x=w.heap.size:=⟨_,rfl⟩
 obtain ⟨w1,hw1⟩:∃ x,x=w.alloc (.cells (key.map B).toArray 60 (0,0)):=⟨_,rfl⟩
 have k1:Keeps [] w w1:=by rw [hw1];exact (Keeps.refl _ _).alloc _
 have b1:Blk w1 g2 60 key:=by rw [hw1];exact heap_new_at hg2
 obtain ⟨w2,hw2⟩:∃ x,x=w1.alloc (.cells #[.int .u8 0] 5 (0,0)):=⟨_,rfl⟩
 have k2:Keeps [] w1 w2:=by rw [hw2];exact (Keeps.refl _ _).alloc _
 have ho2:w2.ownsRow w1.heap.size 5 1 (.slice (some ⟨w1.heap.size,0,none⟩) 1 1) 1 (([0]:List UInt8).map B):=by rw [hw2];exact owns_one (w:=w1) 0 (Nat.le_refl _)
 have HW1:=Lib.hid hw1
 have HG2:=Lib.hid hg2
 have HW2:=Lib.hid hw2
 have HO2:=Lib.hid ho2
 have HB1:=Lib.hid b1
 have HK1:=Lib.hid k1
 have HK2:=Lib.hid k2
 have HV:=Lib.hid (hv.keeps k1 (by simp))
 have HKL:=Lib.hid hk
 have HN:=Lib.hid hn
 clear hw1 hg2 hw2 ho2 k1 b1 k2 hv hk hm hc
 go_enter Tryz.func62,Tryz.ntmps62
 go_upto_region 1 with fail
 rw [← HW1.out,← HG2.out]
 go_upto_region 2 with fail
 rw [← HW2.out]
 go_wp2_with fail
 go_loopw [5,6] (fun v i wr=>∃ k:Nat,k≤32∧i=.int .i64 k∧wr.ownsRow w1.heap.size 5 1 v (1+k) ((0 :: key.take k).map B)∧Keeps [] w1 wr) (fun _ i _=>32 - (intOf i).toNat)
 case atStart=>exact ⟨0,Nat.zero_le _,rfl,HO2.out,HK2.out⟩
 case round =>
  obtain ⟨k,hk,rfl,hown,hkr⟩:=hrel
  obtain ⟨a1,c1,rfl⟩:=own_form hown
  have HOWN:=Lib.hid hown
  have HKR:=Lib.hid hkr
  have hbr:w1.heap.size≤wr.heap.size:=hkr.size
  clear hown hkr
  have b0:(0:Int)≤(k:Int):=by omega
  by_cases hlt:k < 32
  ·have b1:(k:Int) < 32:=by omega
   obtain ⟨x,hx⟩:∃ x,key[k]?=some x:=⟨_,List.getElem?_eq_getElem (by rw [HKL.out];exact hlt)⟩
   have hcell:=blk_cell (HB1.out.keeps HKR.out (by simp)) hx
   have HX:=Lib.hid hx
   clear hx
   go_wp2_with (first | (refine wl_app1 (w0:=wr) rfl (.tmp 13) (.tmp 17) rfl w1.heap.size (.slice a1 (1+k) c1) (1+k) (0 :: key.take k) (by rfl) HOWN.out x (by rfl) (by rfl) (by omega) hbr ?_;intro v2 w3 ho3 hk3 _;try simp only [zA,zB,zC,zD,zE,zF,zG,zH]))
   have HO3:=Lib.hid ho3
   have HK3:=Lib.hid (hk3 [] w1 HKR.out (Nat.le_refl _))
   clear ho3 hk3
   go_roundw
   case rel =>
    refine ⟨k+1,by omega,by go_num,?_,HK3.out⟩
    have h:=HO3.out
    rw [List.cons_append,take_snoc HX.out] at h
    exact h
   case measure=>simp [intOf];omega
  ·obtain rfl:k=32:=by omega
   have HOW:=Lib.hid (show wr.ownsRow w1.heap.size 5 1 (.slice a1 (1+32) c1) (1+32) ((0 :: key).map B) by have h:=HOWN.out;rwa [List.take_of_length_le (by rw [HKL.out];omega)] at h)
   clear HOWN
   go_wp2_with fail
   go_loopw [5,7] (fun v i wr=>∃ k:Nat,k≤n∧i=.int .i64 k∧wr.ownsRow w1.heap.size 5 1 v (33+k) ((0 :: (key++val.take k)).map B)∧Keeps [] w1 wr) (fun _ i _=>n - (intOf i).toNat)
   case atStart=>exact ⟨0,Nat.zero_le _,rfl,by have h:=HOW.out;simpa using h,HKR.out⟩
   case round =>
    obtain ⟨k,hk,rfl,hown,hkr⟩:=hrel
    obtain ⟨a2,c2,rfl⟩:=own_form hown
    have HOWN:=Lib.hid hown
    have HK2:=Lib.hid hkr
    have hbr:w1.heap.size≤wr.heap.size:=hkr.size
    clear hown hkr
    have b0:(0:Int)≤(k:Int):=by omega
    by_cases hlt:k < n
    ·have b1:(k:Int) < (n:Int):=by omega
     obtain ⟨g,o,rfl,hg,hr⟩:=HV.out.at (by omega)
     obtain ⟨x,hx⟩:∃ x,val[k]?=some x:=⟨_,List.getElem?_eq_getElem (by rw [← hn];exact hlt)⟩
     have e1:=range_byte (w':=wr) hr (HK2.out.block g hg (by simp)) hx
     have HX:=Lib.hid hx
     have HR:=Lib.hid hr
     clear hx hr
     go_wp2_with (first | (refine wl_app1 (w0:=wr) rfl (.tmp 25) (.tmp 30) rfl w1.heap.size (.slice a2 (33+k) c2) (33+k) (0 :: (key++val.take k)) (by rfl) HOWN.out x (by rfl) (by rfl) (by omega) hbr ?_;intro v2 w3 ho3 hk3 _;try simp only [zA,zB,zC,zD,zE,zF,zG,zH]))
     have HO3:=Lib.hid ho3
     have HK3:=Lib.hid (hk3 [] w1 HK2.out (Nat.le_refl _))
     clear ho3 hk3
     go_roundw
     case rel =>
      refine ⟨k+1,by omega,by go_num,?_,HK3.out⟩
      have h:=HO3.out
      rw [List.cons_append,List.append_assoc,take_snoc HX.out] at h
      exact h
     case measure=>simp [intOf];omega
    ·obtain rfl:n=k:=by omega
     go_wp2_with fail
     go_ret
     have h:=HOWN.out
     rw [List.take_of_length_le (by omega)] at h
     have e:33+n=(leafL key val).length:=by simp [leafL,HKL.out,hn];omega
     have h2:wr.ownsRow w1.heap.size 5 1 (.slice a2 (33+n) c2) (leafL key val).length ((leafL key val).map B):=by rw [← e];exact h
     exact ⟨.slice a2 (33+n) c2,rfl,ownsRow_base h2,fun j hj=>Nat.le_trans HK1.out.size (World.ownsRow.lt h2 j hj).1,HK1.out.trans (G:=[]) HK2.out (by simp)⟩
set_option maxRecDepth 100000 in
set_option maxHeartbeats 1600000 in
theorem r9BranchText_any {w:World} {l r:List UInt8} (hl:l.length=32) (hr:r.length=32) (n:Int) (k:Nat) (hk:(k:Int)=max 0 (min n 32)) :
  Calls Tryz.prog 85 #[.int .i64 n,.agg (l.map B).toArray,.agg (r.map B).toArray] w fun e w'=>∃ v',e=.returned v'∧OwnB w' v' (branchL k l r)∧(∀ k,v'.ownBlock=some k→w.heap.size≤k)∧Keeps [] w w':=by
 have hk32:k≤32:=by omega
 obtain ⟨g4,hg4⟩:∃ x,x=w.heap.size:=⟨_,rfl⟩
 obtain ⟨wa,hwa⟩:∃ x,x=w.alloc (.cells (l.map B).toArray 88 (0,0)):=⟨_,rfl⟩
 obtain ⟨g5,hg5⟩:∃ x,x=w.heap.size+1:=⟨_,rfl⟩
 have eg5:g5=wa.heap.size:=by rw [hwa,hg5];simp
 obtain ⟨w1,hw1⟩:∃ x,x=wa.alloc (.cells (r.map B).toArray 88 (0,0)):=⟨_,rfl⟩
 have k1:Keeps [] w w1:=by rw [hw1,hwa];exact ((Keeps.refl _ _).alloc _).alloc _
 have b4:Blk w1 g4 88 l:=by rw [hw1];exact (heap_old_at (by rw [← eg5];omega)).trans (by rw [hwa];exact heap_new_at hg4)
 have b5:Blk w1 g5 88 r:=by rw [hw1];exact heap_new_at eg5
 obtain ⟨w2,hw2⟩:∃ x,x=w1.alloc (.cells #[.int .u8 1] 5 (0,0)):=⟨_,rfl⟩
 have k2:Keeps [] w1 w2:=by rw [hw2];exact (Keeps.refl _ _).alloc _
 have ho2:w2.ownsRow w1.heap.size 5 1 (.slice (some ⟨w1.heap.size,0,none⟩) 1 1) 1 (([1]:List UInt8).map B):=by rw [hw2];exact owns_one (w:=w1) 1 (Nat.le_refl _)
 have hif:(if n < 0 then (0:Int) else if 32 < n then 32 else n)=(k:Int):=by
  by_cases h1:n < 0
  ·rw [if_pos h1];omega
  ·rw [if_neg h1]
   by_cases h2:32 < n
   ·rw [if_pos h2];omega
   ·rw [if_neg h2];omega
 have hwi:=fun (wx:World)=>r9Within_any (w:=wx) n 0 32
 rw [hif] at hwi
 have HWI:=Lib.hid hwi
 have HWA:=Lib.hid hwa
 have HW1:=Lib.hid hw1
 have HG4:=Lib.hid hg4
 have HG5:=Lib.hid hg5
 have HW2:=Lib.hid hw2
 have HO2:=Lib.hid ho2
 have HB4:=Lib.hid b4
 have HB5:=Lib.hid b5
 have HK1:=Lib.hid k1
 have HK2:=Lib.hid k2
 have HL:=Lib.hid hl
 have HR:=Lib.hid hr
 clear hwa hw1 hg4 hg5 eg5 hw2 ho2 b4 b5 k1 k2 hl hr hk hif hwi
 go_enter Tryz.func85,Tryz.ntmps85
 go_upto_region 1 with fail
 rw [← HWA.out,← HW1.out,← HG5.out,← HG4.out]
 go_upto_region 3 with (first | (go_at_call 63;refine (HWI.out _).mono ?_;rintro e wy ⟨rfl,rfl⟩))
 rw [← HW2.out]
 go_wp2_with fail
 go_loopw [8,9] (fun v i wr=>∃ j:Nat,j≤k∧i=.int .i64 j∧wr.ownsRow w1.heap.size 5 1 v (1+j) ((1 :: l.take j).map B)∧Keeps [] w1 wr) (fun _ i _=>k - (intOf i).toNat)
 case atStart=>exact ⟨0,Nat.zero_le _,rfl,HO2.out,HK2.out⟩
 case round =>
  obtain ⟨j,hj,rfl,hown,hkr⟩:=hrel
  obtain ⟨a1,c1,rfl⟩:=own_form hown
  have HOWN:=Lib.hid hown
  have HKR:=Lib.hid hkr
  have hbr:w1.heap.size≤wr.heap.size:=hkr.size
  clear hown hkr
  have b0:(0:Int)≤(j:Int):=by omega
  by_cases hlt:j < k
  ·have b1:(j:Int) < (k:Int):=by omega
   have b2:(j:Int) < 32:=by omega
   obtain ⟨x,hx⟩:∃ x,l[j]?=some x:=⟨_,List.getElem?_eq_getElem (by rw [HL.out];omega)⟩
   have hcell:=blk_cell (HB4.out.keeps HKR.out (by simp)) hx
   have HX:=Lib.hid hx
   clear hx
   go_wp2_with (first | (refine wl_app1 (w0:=wr) rfl (.tmp 19) (.tmp 23) rfl w1.heap.size (.slice a1 (1+j) c1) (1+j) (1 :: l.take j) (by rfl) HOWN.out x (by rfl) (by rfl) (by omega) hbr ?_;intro v2 w3 ho3 hk3 _;try simp only [zA,zB,zC,zD,zE,zF,zG,zH]))
   have HO3:=Lib.hid ho3
   have HK3:=Lib.hid (hk3 [] w1 HKR.out (Nat.le_refl _))
   clear ho3 hk3
   go_roundw
   case rel =>
    refine ⟨j+1,by omega,by go_num,?_,HK3.out⟩
    have h:=HO3.out
    rw [List.cons_append,take_snoc HX.out] at h
    exact h
   case measure=>simp [intOf];omega
  ·obtain rfl:k=j:=by omega
   have b1:¬ (k:Int) < (k:Int):=by omega
   go_wp2_with fail
   go_loopw [8,10] (fun v i wr=>∃ j:Nat,j≤k∧i=.int .i64 j∧wr.ownsRow w1.heap.size 5 1 v (1+k+j) ((1 :: (l.take k++r.take j)).map B)∧Keeps [] w1 wr) (fun _ i _=>k - (intOf i).toNat)
   case atStart=>exact ⟨0,Nat.zero_le _,rfl,by have h:=HOWN.out;simpa using h,HKR.out⟩
   case round =>
    obtain ⟨j,hj,rfl,hown,hkr⟩:=hrel
    obtain ⟨a2,c2,rfl⟩:=own_form hown
    have HOW2:=Lib.hid hown
    have HK2:=Lib.hid hkr
    have hbr:w1.heap.size≤wr.heap.size:=hkr.size
    clear hown hkr b0
    have b0:(0:Int)≤(j:Int):=by omega
    by_cases hlt:j < k
    ·have b1:(j:Int) < (k:Int):=by omega
     have b2:(j:Int) < 32:=by omega
     obtain ⟨x,hx⟩:∃ x,r[j]?=some x:=⟨_,List.getElem?_eq_getElem (by rw [HR.out];omega)⟩
     have hcell:=blk_cell (HB5.out.keeps HK2.out (by simp)) hx
     have HX:=Lib.hid hx
     clear hx
     go_wp2_with (first | (refine wl_app1 (w0:=wr) rfl (.tmp 30) (.tmp 34) rfl w1.heap.size (.slice a2 (1+k+j) c2) (1+k+j) (1 :: (l.take k++r.take j)) (by rfl) HOW2.out x (by rfl) (by rfl) (by omega) hbr ?_;intro v2 w3 ho3 hk3 _;try simp only [zA,zB,zC,zD,zE,zF,zG,zH]))
     have HO3:=Lib.hid ho3
     have HK3:=Lib.hid (hk3 [] w1 HK2.out (Nat.le_refl _))
     clear ho3 hk3
     go_roundw
     case rel =>
      refine ⟨j+1,by omega,by go_num,?_,HK3.out⟩
      have h:=HO3.out
      rw [List.cons_append,List.append_assoc,take_snoc HX.out] at h
      exact h
     case measure=>simp [intOf];omega
    ·obtain rfl:k=j:=by omega
     have b1:¬ (k:Int) < (k:Int):=by omega
     go_wp2_with fail
     go_ret
     have h:=HOW2.out
     have e:1+k+k=(branchL k l r).length:=by simp [branchL,HL.out,HR.out];omega
     have h2:wr.ownsRow w1.heap.size 5 1 (.slice a2 (1+k+k) c2) (branchL k l r).length ((branchL k l r).map B):=by rw [← e];exact h
     exact ⟨.slice a2 (1+k+k) c2,rfl,ownsRow_base h2,fun j hj=>Nat.le_trans HK1.out.size (World.ownsRow.lt h2 j hj).1,HK1.out.trans (G:=[]) HK2.out (by simp)⟩
set_option maxRecDepth 100000 in
set_option maxHeartbeats 1600000 in
theorem r9Cut_any {w:World} {v:Value} {t:List UInt8} (hv:BytesAt w v t) (hl:t.length≤1048576) (n:Int) (k:Nat) (hk:(k:Int)=min (max n 0) 32) (ht:RTabs w) :
  Calls Tryz.prog 59 #[v,.int .i64 n] w fun e w'=>e=.returned (.agg ((cutL (shaL t) k).map B).toArray)∧Keeps [] w w':=by
 obtain ⟨a,c,rfl,hc,hm⟩:=hv.form
 obtain ⟨Z,hZl,hZi⟩:=info_dig
 obtain ⟨D,hD⟩:∃ D,D=shaL t:=⟨_,rfl⟩
 have hDl:D.length=32:=by rw [hD];exact shaL_length _
 obtain ⟨C,hC⟩:∃ C,C=cutL D k:=⟨_,rfl⟩
 have hCl:C.length=32:=by rw [hC];exact cutL_length hDl (by omega)
 obtain ⟨g4,hg4⟩:∃ x,x=w.heap.size:=⟨_,rfl⟩
 obtain ⟨w1,hw1⟩:∃ x,x=w.alloc (.cells (Z.map B).toArray 88 (0,0)):=⟨_,rfl⟩
 have k1:Keeps [] w w1:=by rw [hw1];exact (Keeps.refl _ _).alloc _
 have b1:Blk w1 g4 88 Z:=by rw [hw1];exact heap_new_at hg4
 have hsum:=r1Sum_any (hv.keeps k1 (by simp)) hl (ht.keeps k1 (by simp) (by simp))
 rw [← hD] at hsum
 have hcut:=fun (wx:World)=>r1Cut_any (w:=wx) hDl n k hk
 rw [← hC] at hcut
 rw [← hD,← hC]
 have HSUM:=Lib.hid hsum
 have HCUT:=Lib.hid hcut
 have HDL:=Lib.hid hDl
 have HCL:=Lib.hid hCl
 have HZL:=Lib.hid hZl
 have HZI:=Lib.hid hZi
 have HG4:=Lib.hid hg4
 have HW1:=Lib.hid hw1
 have HK1:=Lib.hid k1
 have HB1:=Lib.hid b1
 have HSD:=Lib.hid (dg_size_of hDl)
 have HSC:=Lib.hid (dg_size_of hCl)
 clear hv hZl hZi hD hDl hC hCl hg4 hw1 k1 b1 hsum hcut ht hc hm hk
 go_enter Tryz.func59,Tryz.ntmps59
 go_upto_region 1 with (first | (refine wl_alloc rfl 88 rfl ?_;refine ⟨_,_,run_alloc _ HZI.out,?_⟩;try simp only [zA,zB,zC,zD,zE,zF,zG,zH]))
 try simp only [Value.cells]
 rw [← HW1.out,← HG4.out]
 go_upto_region 2 with (first | (go_at_call 84;refine HSUM.out.mono ?_;rintro e w2 ⟨rfl,hk2⟩) | (refine wl_alloc rfl 88 rfl ?_;refine ⟨_,_,run_alloc _ HZI.out,?_⟩;(try simp only [Value.cells]);try simp only [zA,zB,zC,zD,zE,zF,zG,zH]) | (refine wl_store rfl 88 (.tmp 5) (.tmp 7) rfl ?_;refine ⟨_,run_store_dig (heap_new_at rfl) HZL.out HDL.out,?_⟩;try simp only [zA,zB,zC,zD,zE,zF,zG,zH]))
 obtain ⟨g5,hg5⟩:∃ x,x=w2.heap.size:=⟨_,rfl⟩
 obtain ⟨w3,hw3⟩:∃ x,x=(w2.alloc (.cells (Z.map B).toArray 88 (0,0))).setCells w2.heap.size 0 (D.map B):=⟨_,rfl⟩
 have b5:Blk w3 g5 88 D:=by rw [hw3,hg5];exact dig_store (heap_new_at rfl) (by rw [HZL.out,HDL.out])
 have k23:Keeps [] w2 w3:=by rw [hw3];exact ((Keeps.refl _ _).alloc _).setCells (.inr (Nat.le_refl _)) _ _
 rw [← hw3,← hg5]
 have HR5:=Lib.hid (rangeAt_all b5)
 have HK13:=Lib.hid (hk2.trans (G:=[]) k23 (by simp))
 clear hg5 hw3 b5 k23 hk2
 go_wp2_with (first | (refine wpList_load_mid rfl 88 (.tmp 5) rfl g5 0 (by rfl) (D.map B) _ HR5.out Tryz.underlying88 rfl HSD.out ?_;try simp only [zA,zB,zC,zD,zE,zF,zG,zH]) | (go_at_call 64;refine (HCUT.out _).mono ?_;rintro e w4 ⟨rfl,hk4⟩) | (refine wl_store rfl 88 (.tmp 4) (.tmp 10) rfl ?_;refine ⟨_,run_store_dig (HB1.out.keeps (HK13.out.trans (G:=[]) hk4 (by simp)) (by simp)) HZL.out HCL.out,?_⟩;try simp only [zA,zB,zC,zD,zE,zF,zG,zH]))
 have hk14:=HK13.out.trans (G:=[]) hk4 (by simp)
 refine bodyPost_ret (v:=.agg (C.map B).toArray) (results_row (by rfl) (by rfl) (rangeAt_all (dig_store (x:=C) (HB1.out.keeps hk14 (by simp)) (by rw [HZL.out,HCL.out]))) Tryz.underlying88 rfl HSC.out) rfl ⟨rfl,?_⟩
 exact (HK1.out.trans (G:=[]) hk14 (by simp)).setCells (.inr (by rw [HG4.out];omega)) _ _
open Go.RowKit
def emptiesL (k n:Nat):List (List UInt8):=(List.range n).map (emptyD k)
theorem emptiesL_succ (k n:Nat):emptiesL k (n+1)=emptiesL k n++[emptyD k n]:=by simp [emptiesL,List.range_succ]
theorem emptiesL_length (k n:Nat):(emptiesL k n).length=n:=by simp [emptiesL]
theorem emptiesL_32 {k:Nat} (hk:k≤32) (n:Nat):∀ s∈emptiesL k n,s.length=32:=by
 intro s hs
 obtain ⟨j,_,rfl⟩:=List.mem_map.1 hs
 exact emptyD_length hk j
theorem sumCells_append (a b:List (List UInt8)):sumCells (a++b)=sumCells a++sumCells b:=by simp [sumCells]
theorem sumCells_one (s:List UInt8):sumCells [s]=s.map B:=by simp [sumCells]
theorem sumCells_length {l:List (List UInt8)} (h:∀ s∈l,s.length=32):(sumCells l).length=l.length * 32:=by
 induction l with
 | nil=>rfl
 | cons s l ih =>
  have h1:=h s (by simp)
  have h2:=ih (fun x hx=>h x (by simp [hx]))
  unfold sumCells at h2 ⊢
  rw [List.flatMap_cons,List.length_append,h2,List.length_map,h1,List.length_cons]
  omega
structure WayAt (w:World) (g:Nat) (n:Int) (S E:List (List UInt8)):Prop where
 row:w.heap[g]?=some (.cells (.int .i64 n :: (sumCells S++sumCells E)).toArray 95 (0,0))
 lenS:S.length=256
 lenE:E.length=256
 s32:∀ s∈S,s.length=32
 e32:∀ s∈E,s.length=32
theorem WayAt.keeps {w w':World} {g:Nat} {n:Int} {S E:List (List UInt8)} {F:List Nat} (h:WayAt w g n S E) (hk:Keeps F w w') (hg:g ∉ F):WayAt w' g n S E :=
 ⟨(hk.block g (lt_of_heap h.row) hg).trans h.row,h.lenS,h.lenE,h.s32,h.e32⟩
theorem way_store {w:World} {q o:Nat} {L:List Value} {x:List UInt8} (h:w.heap[q]?=some (.cells L.toArray 95 (0,0))) (ho:o+32≤L.length) (hl:x.length=32) :
  (Instr.storeAt 88 (.pointer (some ⟨q,o,none⟩)) (.agg (x.map B).toArray)).run Tryz.prog w=.ok () (w.setCells q o (x.map B)):=by
 have:=run_storeAt_mid (P:=Tryz.prog) w q o 88 (x.map B).toArray (there_all h o _ (by simp;omega)) (by rw [dg_size];simp [hl]) (all_oneCell_toArray (B_one x))
 simpa using this
theorem size_256d:(Tryz.prog.info? 93).map (·.size)=some 8192:=by kernel_rfl
theorem sumCells_one' (l:List (List UInt8)):(sumCells l).toArray.all (·.oneCell')=true:=by
 apply all_oneCell_toArray
 intro v hv
 obtain ⟨s,_,hs⟩:=List.mem_flatMap.1 hv
 exact B_one s v hs
theorem way_zero (n:Int):∃ Z:List Value,Z.length=16384∧Tryz.zeroCells95.setIfInBounds 0 (.int .i64 n)=(.int .i64 n :: Z).toArray:=by
 have hs:=Tryz.zeroCells95_size
 generalize Tryz.zeroCells95=A at hs ⊢
 refine ⟨A.toList.tail,by simp [hs],?_⟩
 apply Array.ext'
 rw [Array.toList_setIfInBounds]
 obtain ⟨l⟩:=A
 cases l with
 | nil=>simp at hs
 | cons x l=>rfl
set_option maxRecDepth 100000 in
set_option maxHeartbeats 1600000 in
theorem begin_any {w:World} (n:Int) (n0:-9223372036854775808≤n) (n1:n≤9223372036854775807) (k:Nat) (hk:(k:Int)=max 0 (min n 32)) (ht:Tabs w) :
  Calls Tryz.prog 25 #[.int .i64 n] w fun e w'=>∃ q,e=.returned (.pointer (some ⟨q,0,none⟩))∧WayAt w' q n (emptiesL k 256) (emptiesL k 256)∧w.heap.size≤q∧Keeps [] w w':=by
 have hk32:k≤32:=by omega
 obtain ⟨X,hX,hXi⟩:∃ X:Array Value,X=Array.replicate 32 (.int .u8 0)∧(Tryz.prog.info? 88).map (fun i=>(i.zero,i.size,i.bytes))=some (some (.agg X),32,32):=⟨_,rfl,info_digest⟩
 obtain ⟨Z,hZ,hZe⟩:=way_zero n
 obtain ⟨q,hq⟩:∃ q,q=w.heap.size:=⟨_,rfl⟩
 obtain ⟨w1,hw1⟩:∃ x,x=w.alloc (.cells (.int .i64 n :: Z).toArray 95 (0,0)):=⟨_,rfl⟩
 have k1:Keeps [] w w1:=by rw [hw1];exact (Keeps.refl _ _).alloc _
 have b1:w1.heap[q]?=some (.cells (.int .i64 n :: Z).toArray 95 (0,0)):=by rw [hw1];exact heap_new_at hq
 have hem:=emptyD_any (w:=w1) n n0 n1 k hk (ht.keeps k1 (by simp) (by simp)) 0 (by omega)
 rw [show ((0:Nat):Int)=0 from rfl] at hem
 have HEM:=Lib.hid hem
 have HT:=Lib.hid ht
 have HK:=Lib.hid hk
 have HW1:=Lib.hid hw1
 have HQ:=Lib.hid hq
 have HX:=Lib.hid hX
 have HXI:=Lib.hid hXi
 have HZ:=Lib.hid hZ
 have HZE:=Lib.hid hZe
 have HK1:=Lib.hid k1
 have HB1:=Lib.hid b1
 clear hw1 hq hX hXi hZ hZe k1 b1 ht hk hem
 go_enter Tryz.func25,Tryz.ntmps25
 go_upto_region 2 with fail
 rw [HZE.out,← HW1.out,← HQ.out]
 have hq1:q < w1.heap.size:=lt_of_heap HB1.out
 go_upto_region 3 with (first | (go_at_call 50;refine HEM.out.mono ?_;rintro e w2 ⟨rfl,hk2⟩) | (refine wl_alloc rfl 88 rfl ?_;refine ⟨_,_,run_alloc _ HXI.out,?_⟩;(try simp only [Value.cells]);try simp only [zA,zB,zC,zD,zE,zF,zG,zH]) | (refine wl_store rfl 88 (.tmp 4) (.tmp 10) rfl ?_;refine ⟨_,dg_run_store (heap_new_at rfl |>.trans (by rw [HX.out])) (emptyD_length hk32 0),?_⟩;try simp only [zA,zB,zC,zD,zE,zF,zG,zH]))
 obtain ⟨q4,hq4⟩:∃ x,x=w2.heap.size:=⟨_,rfl⟩
 obtain ⟨w3,hw3⟩:∃ x,x=(w2.alloc (.cells X 88 (0,0))).setCells q4 0 ((emptyD k 0).map B):=⟨_,rfl⟩
 have b4:Blk w3 q4 88 (emptyD k 0):=by
  rw [hw3]
  exact dg_store ((heap_new_at hq4).trans (by rw [HX.out])) (emptyD_length hk32 0)
 have k23:Keeps [] w2 w3:=by rw [hw3];exact ((Keeps.refl _ _).alloc _).setCells (.inr (by rw [hq4];exact Nat.le_refl _)) _ _
 have k13:Keeps [] w1 w3:=hk2.trans (G:=[]) k23 (by simp)
 have hqq:q < q4:=by rw [hq4];exact Nat.lt_of_lt_of_le hq1 hk2.size
 have b3:w3.heap[q]?=some (.cells (.int .i64 n :: Z).toArray 95 (0,0)):=(k13.block q hq1 (by simp)).trans HB1.out
 have HB3:=Lib.hid b3
 have HB4:=Lib.hid b4
 have HK3:=Lib.hid (HK1.out.trans (G:=[]) k13 (by simp))
 have HQQ:=Lib.hid hqq
 have hgl:=HT.out.lt
 have HT3:=Lib.hid (HT.out.keeps HK3.out (by simp) (by simp))
 have HGL:=Lib.hid (show (2≠q∧2≠q4)∧(0≠q∧0≠q4) by have:=HQ.out;omega)
 have HQW:=Lib.hid (show w.heap.size≤q∧w.heap.size≤q4 by have:=HQ.out;omega)
 rw [← hq4]
 rw [← hw3]
 clear hq4 hw3 b4 k23 k13 hqq b3 hk2 hgl HEM HB1 HK1 hq1
 go_wp2_with fail
 go_loopw [11] (fun iv wr=>∃ j:Nat,j≤256∧iv=.int .i64 j∧Blk wr q4 88 (emptyD k j)∧wr.heap[q]?=some (.cells (.int .i64 n :: (Z.take 8192++(sumCells (emptiesL k j)++Z.drop (8192+j * 32)))).toArray 95 (0,0))∧Keeps [q,q4] w3 wr) (fun iv _=>256 - (intOf iv).toNat)
 case atStart =>
  refine ⟨0,by omega,rfl,HB4.out,?_,Keeps.refl _ _⟩
  rw [show sumCells (emptiesL k 0)=[] from rfl,List.nil_append,show 8192+0 * 32=8192 from rfl,List.take_append_drop]
  exact HB3.out
 case round =>
  obtain ⟨j,hj,rfl,hb,hrw,hkr⟩:=hrel
  have hl32:(emptyD k j).length=32:=emptyD_length hk32 j
  have hcl:(sumCells (emptiesL k j)).length=j * 32:=by rw [sumCells_length (emptiesL_32 hk32 j),emptiesL_length]
  by_cases hlt:j < 256
  ·have hbr:=branch_any (w:=wr) hl32 hl32 n n0 n1 k HK.out (HT3.out.keeps hkr (by simp;exact HGL.out.1) (by simp;exact HGL.out.2))
   have hl33:(emptyD k (j+1)).length=32:=emptyD_length hk32 (j+1)
   obtain ⟨E,hE⟩:∃ E,E=emptyD k j:=⟨_,rfl⟩
   obtain ⟨E1,hE1⟩:∃ E1,E1=emptyD k (j+1):=⟨_,rfl⟩
   obtain ⟨L,hL⟩:∃ L,L=Value.int .i64 n :: (Z.take 8192++(sumCells (emptiesL k j)++Z.drop (8192+j * 32))):=⟨_,rfl⟩
   have hLl:8193+j * 32+32≤L.length:=by rw [hL];simp [hcl,HZ.out];omega
   rw [← hL] at hrw
   rw [← hE] at hl32 hb
   rw [← hE1] at hl33
   have hst:=fun (wx:World) (hx:wx.heap[q]?=some (.cells L.toArray 95 (0,0)))=>way_store hx hLl hl32
   have hbr2:=fun (wx:World) (hx:Keeps [q] wr wx)=>branch_any (w:=wx) hl32 hl32 n n0 n1 k HK.out ((HT3.out.keeps hkr (by simp;exact HGL.out.1) (by simp;exact HGL.out.2)).keeps hx (by simp;exact HGL.out.1.1) (by simp;exact HGL.out.2.1))
   rw [show branchD k E E=E1 by rw [hE,hE1];rfl] at hbr2
   obtain ⟨w4,hw4⟩:∃ x,x=wr.drew.setCells q (8193+j * 32) (E.map B):=⟨_,rfl⟩
   have k4:Keeps [q] wr w4:=by rw [hw4];exact ((Keeps.refl _ _).drew).setCells (.inl (by simp)) _ _
   have hb4:Blk w4 q4 88 E:=hb.keeps k4 (by simp;have:=HQQ.out;omega)
   have hr4:w4.heap[q]?=some (.cells (.int .i64 n :: (Z.take 8192++(sumCells (emptiesL k (j+1))++Z.drop (8192+(j+1) * 32)))).toArray 95 (0,0)):=by
    rw [hw4,heap_setCells_same q 95 (E.map B) (8193+j * 32) wr.drew L (show wr.drew.heap[q]?=_ from hrw) (by rw [List.length_map,hl32];exact hLl)]
    congr 3
    have h8:(Z.take 8192).length=8192:=by rw [List.length_take,HZ.out];rfl
    have e1:L=(Value.int .i64 n :: (Z.take 8192++sumCells (emptiesL k j)))++Z.drop (8192+j * 32):=by rw [hL];simp
    have e2:(Value.int .i64 n :: (Z.take 8192++sumCells (emptiesL k j))).length=8193+j * 32:=by rw [List.length_cons,List.length_append,h8,hcl];omega
    rw [e1,List.take_left' e2,List.length_map,hl32,← e2,List.drop_append,e2,List.drop_drop,List.drop_eq_nil_of_le (by rw [e2];omega),emptiesL_succ,sumCells_append,sumCells_one,← hE]
    simp
    omega
   have HHB:=Lib.hid hb
   have HHR:=Lib.hid hrw
   have HKR:=Lib.hid hkr
   have HST:=Lib.hid hst
   have HBR:=Lib.hid (hbr2 w4 k4)
   have HW4:=Lib.hid hw4
   have HK4:=Lib.hid k4
   have HB4':=Lib.hid hb4
   have HR4:=Lib.hid hr4
   have HL:=Lib.hid (And.intro hl32 hl33)
   have HSD:=Lib.hid (dg_size_of hl32)
   have HE1:=Lib.hid hE1
   have b0:(0:Int)≤(j:Int):=by omega
   have b1:(j:Int) < ((256:Nat):Int):=by omega
   clear hb hrw hkr hl32 hl33 hcl hE hE1 hL hLl hst hbr2 hbr hw4 k4 hb4 hr4
   go_upto_region 6 with fail
   refine wp_region_held_drew (S:=(fun w'=>w'.rangeAt q4 0 (E.map B))) (by kernel_rfl) ?_ (fun hHeld=>?_)
   ·exact rangeAt_all HHB.out
   refine tk 0 ?_
   refine tk 1 ?_
   refine tkb 2 rfl (yieldsIf_load_mid (by rfl) 88 (.tmp 4) rfl q4 0 rfl (E.map B) _ (fun _ h=>h) Tryz.underlying88 rfl HSD.out) ?_
   refine tk 3 ?_
   refine tk 4 ?_
   refine tk 5 ?_
   refine ac 6 fun K hK=>?_
   (refine st_store rfl 88 (.tmp 19) (.tmp 16) rfl ?_;refine ⟨_,HST.out wr.drew HHR.out,?_⟩;try simp only [zA,zB,zC,zD,zE,zF,zG,zH])
   rw [← HW4.out]
   refine hK.out _ _ ?_ (fun hHeld=>?_)
   ·exact rangeAt_all HB4'.out
   clear hK K
   try simp only [zA,zB,zC,zD,zE,zF,zG,zH]
   refine wpAnyH_done (by kernel_rfl) ?_ _
   clear hHeld
   go_wp2_with (first | (refine wpList_load_mid rfl 88 (.tmp 4) rfl q4 0 (by rfl) (E.map B) _ (rangeAt_all HB4'.out) Tryz.underlying88 rfl HSD.out ?_;try simp only [zA,zB,zC,zD,zE,zF,zG,zH]) | (go_at_call 51;refine HBR.out.mono ?_;rintro e w6 ⟨rfl,hk6⟩) | (refine wl_store rfl 88 (.tmp 4) (.tmp 23) rfl ?_;refine ⟨_,dg_run_store2 (HB4'.out.keeps hk6 (by simp)) HL.out.1 HL.out.2,?_⟩;try simp only [zA,zB,zC,zD,zE,zF,zG,zH]))
   go_roundw
   case rel =>
    have k46:Keeps [q4] w4 (w6.setCells q4 0 (E1.map B)):=(hk6.mono (G:=[q4]) (by simp)).setCells (.inl (by simp)) _ _
    refine ⟨j+1,by omega,by go_num,?_,(k46.block q (lt_of_heap HR4.out) (by simp;have:=HQQ.out;omega)).trans HR4.out,(HKR.out.trans (G:=[q]) HK4.out (fun k hk=>.inl (by simp at hk;simp [hk]))).trans (G:=[q4]) k46 (fun k hk=>.inl (by simp at hk;simp [hk]))⟩
    have:=dg_store2 (x:=E1) (HB4'.out.keeps hk6 (by simp)) HL.out.1 HL.out.2
    rw [← HE1.out]
    exact this
   case measure=>simp [intOf];omega
  ·have e:j=256:=by omega
   subst e
   have h8:(Z.take 8192).length=8192:=by rw [List.length_take,HZ.out];rfl
   have hz:Z.drop (8192+256 * 32)=[]:=List.drop_eq_nil_of_le (by rw [HZ.out];omega)
   obtain ⟨S,hS⟩:∃ S,S=sumCells (emptiesL k 256):=⟨_,rfl⟩
   rw [hz,List.append_nil,← hS] at hrw
   rw [← hS] at hcl
   have hS1:S.toArray.all (·.oneCell')=true:=by rw [hS];exact sumCells_one' _
   have hrr:wr.rangeAt q 8193 S:=by
    have:=rangeAt_part (w:=wr) (b:=q) (xs:=.int .i64 n :: Z.take 8192) (ys:=S) (zs:=[]) (t:=95) (fr:=(0,0)) (by simpa using hrw)
    rw [List.length_cons,h8] at this
    exact this
   have hst:=run_storeAt_mid (P:=Tryz.prog) wr q 1 93 S.toArray (there_all hrw 1 _ (by simp [hcl,h8])) (by rw [size_256d];simp [hcl]) hS1
   have HST:=Lib.hid hst
   have HRR:=Lib.hid hrr
   have HSZ:=Lib.hid (show (Tryz.prog.info? 93).map (·.size)=some S.length by rw [size_256d,hcl])
   have hlast:WayAt (wr.setCells q 1 S.toArray.toList) q n (emptiesL k 256) (emptiesL k 256):=by
    refine ⟨?_,emptiesL_length _ _,emptiesL_length _ _,emptiesL_32 hk32 _,emptiesL_32 hk32 _⟩
    rw [heap_setCells_same q 95 _ 1 wr _ hrw (by simp [hcl,h8]),← hS]
    congr 3
    simp [hcl]
    exact List.drop_left' h8
   have HLAST:=Lib.hid hlast
   have HKK:=Lib.hid (HK3.out.trans (G:=[q,q4]) hkr (fun k hk=>.inr (by have:=HQW.out;simp at hk;rcases hk with rfl | rfl <;> omega)))
   clear hb hrw hkr hl32 hcl hS hS1 hrr hst hlast h8 hz
   go_wp2_with (first | (refine wpList_load_mid rfl 93 (.tmp 28) rfl q 8193 (by rfl) S _ HRR.out Tryz.underlying93 rfl HSZ.out ?_;try simp only [zA,zB,zC,zD,zE,zF,zG,zH]) | (refine wl_store rfl 93 (.tmp 31) (.tmp 29) rfl ?_;refine ⟨_,HST.out,?_⟩;try simp only [zA,zB,zC,zD,zE,zF,zG,zH]))
   go_ret
   exact ⟨q,rfl,HLAST.out,HQW.out.1,HKK.out.setCells (.inr HQW.out.1) _ _⟩
open Go.RowKit
structure Nde where
 kind:Int
 left:Int
 right:Int
 lc:Int
 rc:Int
 ls:List UInt8
 rs:List UInt8
 key:List UInt8
 val:List UInt8
def Nde.ok (n:Nde):Prop:=n.ls.length=32∧n.rs.length=32∧n.key.length=32
def z32:List UInt8:=List.replicate 32 0
def nodeC (n:Nde) (vv:Value):List Value:=.int .i64 n.kind :: .int .i64 n.left :: .int .i64 n.right :: .int .i64 n.lc :: .int .i64 n.rc :: (n.ls.map B++n.rs.map B++n.key.map B++[vv])
def nd0:Nde:=⟨0,0,0,0,0,z32,z32,z32,[]⟩
theorem nd0_ok:nd0.ok:=⟨rfl,rfl,rfl⟩
theorem nodeC_length {n:Nde} (h:n.ok) (vv:Value):(nodeC n vv).length=102:=by simp [nodeC,h.1,h.2.1,h.2.2]
theorem size_node:(Tryz.prog.info? 90).map (·.size)=some 102:=by kernel_rfl
theorem size_node_of {n:Nde} (h:n.ok) (vv:Value):(Tryz.prog.info? 90).map (·.size)=some (nodeC n vv).length:=by rw [nodeC_length h];exact size_node
set_option maxRecDepth 100000 in
theorem info_node:(Tryz.prog.info? 90).map (fun i=>(i.zero,i.size,i.bytes))=some (some (.agg (nodeC nd0 (.slice none 0 0)).toArray),102,160):=by kernel_rfl
theorem nodeC_ones {n:Nde} {a:Option Addr} {m c:Nat}:∀ v∈nodeC n (.slice a m c),v.oneCell'=true:=by
 intro v hv
 simp only [nodeC,List.mem_cons,List.mem_append,List.mem_singleton,List.not_mem_nil,or_false] at hv
 rcases hv with rfl | rfl | rfl | rfl | rfl | ((hv | hv) | hv) | rfl
 ·rfl
 ·rfl
 ·rfl
 ·rfl
 ·rfl
 ·exact B_one _ v hv
 ·exact B_one _ v hv
 ·exact B_one _ v hv
 ·rfl
theorem run_store_node {w:World} {q:Nat} {z cs:List Value} (h:w.heap[q]?=some (.cells z.toArray 90 (0,0))) (hz:z.length=102) (hc:cs.length=102) (h1:∀ v∈cs,v.oneCell'=true) :
  (Instr.storeAt 90 (.pointer (some ⟨q,0,none⟩)) (.agg cs.toArray)).run Tryz.prog w=.ok () (w.setCells q 0 cs):=by
 have:=run_storeAt_mid (P:=Tryz.prog) w q 0 90 cs.toArray (there_all h 0 _ (by simp [hz,hc])) (by rw [size_node];simp [hc]) (all_oneCell_toArray h1)
 simpa using this
set_option maxRecDepth 100000 in
theorem run_build_node0 (w:World):(Instr.build 90 #[]).run Tryz.prog w=.ok (.agg (nodeC nd0 (.slice none 0 0)).toArray) w:=by kernel_rfl
open Go.RowKit
theorem StoreIn.c_mem {w:World} {s b bf c bm:Nat} {S:St} {sv:Value} (h:StoreIn w s b S bf c bm sv):c < w.heap.size:=h.lt c (mem_stF.2 (.inr (.inr (.inl (by simp [caF])))))
open Go.RowKit
set_option maxRecDepth 100000 in
set_option maxHeartbeats 1600000 in
theorem down_zero {w:World} {v1 v2:Value} {key:List UInt8} :
  Calls Tryz.prog 26 #[v1,v2,.int .i64 0,.agg (key.map B).toArray] w fun r w'=>r=.returned (.tuple #[.pointer none,.int .i64 0])∧Keeps [] w w':=by
 obtain ⟨w1,hw1⟩:∃ x,x=w.alloc (.cells (key.map B).toArray 60 (0,0)):=⟨_,rfl⟩
 have k1:Keeps [] w w1:=by rw [hw1];exact (Keeps.refl _ _).alloc _
 have HW1:=Lib.hid hw1
 have HK1:=Lib.hid k1
 clear hw1 k1
 go_enter Tryz.func26,Tryz.ntmps26
 go_wp2_with fail
 rw [← HW1.out]
 go_loopw [10] (fun pg wr=>pg=.int .i64 0∧wr=w1) (fun _ _=>0)
 case atStart=>exact ⟨rfl,rfl⟩
 case round =>
  obtain ⟨rfl,rfl⟩:=hrel
  go_wp2_with fail
  go_ret2
  exact ⟨rfl,HK1.out⟩
open Go.RowKit
def pfZ:Pf:=⟨false,[],List.replicate 32 0,[]⟩
def pfZC:List Value:=pfCells pfZ (.slice none 0 0) (.slice none 0 0)
theorem pfZC_spec:pfZC.length=35∧(Tryz.prog.info? 57).map (fun i=>(i.zero,i.size,i.bytes))=some (some (.agg pfZC.toArray),35,88)∧(∀ v∈pfZC,v.oneCell'=true):=⟨pf_length (by simp [pfZ]) _ _,info_proof,pf_ones⟩
theorem run_build_pfZ (w:World):(Instr.build 57 #[]).run Tryz.prog w=.ok (.agg pfZC.toArray) w:=by kernel_rfl
def refusal (e:Int):Ending:=.returned (.tuple #[.agg pfZC.toArray,.int .i64 e])
open Go.RowKit
theorem field_width (w:World) (s:Sup):(Instr.field 42 (supV s) 0).run Tryz.prog w=.ok (.int .i64 s.width) w:=by kernel_rfl
open Go.RowKit
def le4 (l:List UInt8) (o:Nat):Nat:=(l.getD o 0).toNat+256 * (l.getD (o+1) 0).toNat+65536 * (l.getD (o+2) 0).toNat+16777216 * (l.getD (o+3) 0).toNat
theorem le4_lt (l:List UInt8) (o:Nat):le4 l o < 4294967296:=by
 have h0:=(l.getD o 0).toNat_lt
 have h1:=(l.getD (o+1) 0).toNat_lt
 have h2:=(l.getD (o+2) 0).toNat_lt
 have h3:=(l.getD (o+3) 0).toNat_lt
 unfold le4
 omega
theorem le4_bits {a b c d:Nat} (ha:a < 256) (hb:b < 256) (hc:c < 256) (hd:d < 256) :
  bits .or .i64 (bits .or .i64 (bits .or .i64 (a:Int) ((b:Int) * 256)) ((c:Int) * 65536)) ((d:Int) * 16777216)=((a+256 * b+65536 * c+16777216 * d:Nat):Int):=by
 have e1:((b:Int) * 256)=((b * 256:Nat):Int):=by omega
 have e2:((c:Int) * 65536)=((c * 65536:Nat):Int):=by omega
 have e3:((d:Int) * 16777216)=((d * 16777216:Nat):Int):=by omega
 have o1:a ||| b * 256=b * 256+a:=by rw [Nat.or_comm];exact or_low ha
 have o2:(b * 256+a) ||| c * 65536=c * 65536+(b * 256+a):=by
  have:=Nat.two_pow_add_eq_or_of_lt (i:=16) (b:=b * 256+a) (by omega) c
  rw [show (2:Nat) ^ 16 * c=c * 65536 by omega] at this
  rw [Nat.or_comm]
  exact this.symm
 have o3:(c * 65536+(b * 256+a)) ||| d * 16777216=d * 16777216+(c * 65536+(b * 256+a)):=by
  have:=Nat.two_pow_add_eq_or_of_lt (i:=24) (b:=c * 65536+(b * 256+a)) (by omega) d
  rw [show (2:Nat) ^ 24 * d=d * 16777216 by omega] at this
  rw [Nat.or_comm]
  exact this.symm
 rw [e1,e2,e3,bits_or_i64 (by omega) (by omega),o1,bits_or_i64 (by omega) (by omega),o2,bits_or_i64 (by omega) (by omega),o3]
 congr 1
 omega
set_option maxRecDepth 100000 in
set_option maxHeartbeats 800000 in
theorem four_any {w:World} {a:Option Addr} {c:Nat} {l:List UInt8} (hv:BytesAt w (.slice a l.length c) l) (h4:4≤l.length) :
  Calls Tryz.prog 114 #[.slice a l.length c] w fun e w'=>e=.returned (.int .i64 (le4 l 0))∧w.drew=w':=by
 obtain ⟨g,o,rfl,hg,hr⟩:=hv.at (by omega)
 obtain ⟨n,hn⟩:∃ n,n=l.length:=⟨_,rfl⟩
 obtain ⟨x0,hx0⟩:∃ x,l[0]?=some x:=⟨_,List.getElem?_eq_getElem (by omega)⟩
 obtain ⟨x1,hx1⟩:∃ x,l[1]?=some x:=⟨_,List.getElem?_eq_getElem (by omega)⟩
 obtain ⟨x2,hx2⟩:∃ x,l[2]?=some x:=⟨_,List.getElem?_eq_getElem (by omega)⟩
 obtain ⟨x3,hx3⟩:∃ x,l[3]?=some x:=⟨_,List.getElem?_eq_getElem (by omega)⟩
 have c0:=range_byte (w':=w) hr rfl hx0
 have c1:=range_byte (w':=w) hr rfl hx1
 have c2:=range_byte (w':=w) hr rfl hx2
 have c3:=range_byte (w':=w) hr rfl hx3
 rw [Nat.add_zero] at c0
 have hle:le4 l 0=x0.toNat+256 * x1.toNat+65536 * x2.toNat+16777216 * x3.toNat:=by
  unfold le4
  simp only [List.getD_eq_getElem?_getD,Nat.zero_add,hx0,hx1,hx2,hx3,Option.getD_some]
 rw [hle]
 rw [← hn] at h4 ⊢
 have b0:(0:Int) < (n:Int):=by omega
 have b1:(1:Int) < (n:Int):=by omega
 have b2:(2:Int) < (n:Int):=by omega
 have b3:(3:Int) < (n:Int):=by omega
 have d0:0 < n:=by omega
 have d1:1 < n:=by omega
 have d2:2 < n:=by omega
 have d3:3 < n:=by omega
 have l0:=x0.toNat_lt
 have l1:=x1.toNat_lt
 have l2:=x2.toNat_lt
 have l3:=x3.toNat_lt
 have u0:IntKind.i64.wrap (x0.toNat:Int)=x0.toNat:=IntWalk.i64_in _ (by omega)
 have u1:IntKind.i64.wrap (x1.toNat:Int)=x1.toNat:=IntWalk.i64_in _ (by omega)
 have u2:IntKind.i64.wrap (x2.toNat:Int)=x2.toNat:=IntWalk.i64_in _ (by omega)
 have u3:IntKind.i64.wrap (x3.toNat:Int)=x3.toNat:=IntWalk.i64_in _ (by omega)
 have v1:IntKind.i64.wrap ((x1.toNat:Int) * 256)=(x1.toNat:Int) * 256:=IntWalk.i64_in _ (by omega)
 have v2:IntKind.i64.wrap ((x2.toNat:Int) * 65536)=(x2.toNat:Int) * 65536:=IntWalk.i64_in _ (by omega)
 have v3:IntKind.i64.wrap ((x3.toNat:Int) * 16777216)=(x3.toNat:Int) * 16777216:=IntWalk.i64_in _ (by omega)
 have HE:=Lib.hid (le4_bits l0 l1 l2 l3)
 clear l0 l1 l2 l3
 clear hv hr hn hx0 hx1 hx2 hx3 hle hg
 go_enter Tryz.func114,Tryz.ntmps114
 go_upto_region 1 with fail
 refine wp_region_held_drew (S:=(fun w'=>w'.cell? ⟨g,o,none⟩=some (.int .u8 x0.toNat)∧w'.cell? ⟨g,o+1,none⟩=some (.int .u8 x1.toNat)∧w'.cell? ⟨g,o+2,none⟩=some (.int .u8 x2.toNat)∧w'.cell? ⟨g,o+3,none⟩=some (.int .u8 x3.toNat))) (by kernel_rfl) ?_ (fun hHeld=>?_)
 ·exact ⟨c0,c1,c2,c3⟩
 refine tk 0 ?_
 refine tk 1 ?_
 refine tk 2 ?_
 refine tk 3 ?_
 refine tk 4 ?_
 refine tk 5 ?_
 refine tk 6 ?_
 refine tk 7 ?_
 refine tk 8 ?_
 refine tk 9 ?_
 refine tk 10 ?_
 refine tk 11 ?_
 refine tk 12 ?_
 refine tk 13 ?_
 refine tk 14 ?_
 refine tk 15 ?_
 refine tk 16 ?_
 refine tk 17 ?_
 refine tk 18 ?_
 refine tk 19 ?_
 refine tk 20 ?_
 refine tk 21 ?_
 refine tk 22 ?_
 refine wpAnyH_done (by kernel_rfl) ?_ _
 clear hHeld
 go_wp2_with fail
 go_ret
 exact ⟨by rw [← HE.out];rfl,rfl⟩
open Go.RowKit
theorem run_copy_to {W:World} {g o m n c1 c2:Nat} {a:Option Addr} {t:TypeId} {cur:List Value} {l:List UInt8} (hp:W.heap[g]?=some (.cells cur.toArray t (0,0))) (hs:BytesAt W (.slice a n c2) l) (h0:0 < n) (hl:l.length=n) {k:Nat} (hk:k=Nat.min n m) (ho:o+k≤cur.length) (ty:TypeId) :
  (Builtin.copy_ #[36,36] ty #[.slice (some ⟨g,o,none⟩) m c1,.slice a n c2]).run Tryz.prog W=.ok (.int .i64 k) (W.setRow g (cur.take o++(l.take k).map B++cur.drop (o+k)).toArray):=by
 subst hl
 obtain ⟨go,so,rfl,_,hr⟩:=hs.at h0
 have hkl:(l.take k).length=k:=by rw [List.length_take,hk];exact Nat.min_eq_left (Nat.min_le_left _ _)
 have:=run_copy_row (P:=Tryz.prog) W 36 36 ty 5 g o m c1 ⟨go,so,none⟩ l.length c2 cur.toArray t ((l.take k).map B) Tryz.underlying36 (by kernel_rfl) hp (by rw [List.length_map,hkl];exact hk)
  (fun j v hv=>by
   rw [Addr.add_mid]
   refine hr j v ?_
   rw [List.map_take] at hv
   exact (List.getElem?_take_of_lt (by
    have:=(List.getElem?_eq_some_iff.1 hv).1
    rw [List.length_take] at this
    omega)).symm.trans hv) (by rw [List.length_map,hkl];simpa using ho) (B_one _)
 have hmk:min k l.length=k:=Nat.min_eq_left (by rw [hk];exact Nat.min_le_left _ _)
 rw [this]
 simp [goInt,hkl,hmk]
def leafC (key:List UInt8) (vv:Value):List Value:=key.map B++[vv]
theorem leafC_length {key:List UInt8} (h:key.length=32) (vv:Value):(leafC key vv).length=33:=by simp [leafC,h]
theorem size_nleaf:(Tryz.prog.info? 189).map (·.size)=some 33:=by kernel_rfl
set_option maxRecDepth 100000 in
theorem info_nleaf:(Tryz.prog.info? 189).map (fun i=>(i.zero,i.size,i.bytes))=some (some (.agg (leafC z32 (.slice none 0 0)).toArray),33,56):=by kernel_rfl
set_option maxRecDepth 100000 in
theorem run_build_leaf (a:Option Addr) (n c:Nat) (w:World):(Instr.build 189 #[(1,.slice a n c)]).run Tryz.prog w=.ok (.agg (leafC z32 (.slice a n c)).toArray) w:=by kernel_rfl
theorem leafC_ones {key:List UInt8} {a:Option Addr} {n c:Nat}:∀ v∈leafC key (.slice a n c),v.oneCell'=true:=by
 intro v hv
 simp only [leafC,List.mem_append,List.mem_singleton] at hv
 rcases hv with hv | rfl
 ·exact B_one _ v hv
 ·rfl
theorem run_store_cells {w:World} {q k:Nat} {t:TypeId} {z cs:List Value} (h:w.heap[q]?=some (.cells z.toArray t (0,0))) (hz:z.length=k) (hc:cs.length=k) (hs:(Tryz.prog.info? t).map (·.size)=some k) (h1:∀ v∈cs,v.oneCell'=true) :
  (Instr.storeAt t (.pointer (some ⟨q,0,none⟩)) (.agg cs.toArray)).run Tryz.prog w=.ok () (w.setCells q 0 cs):=by
 have:=run_storeAt_mid (P:=Tryz.prog) w q 0 t cs.toArray (there_all h 0 _ (by simp [hz,hc])) (by rw [hs];simp [hc]) (all_oneCell_toArray h1)
 simpa using this
set_option maxRecDepth 100000 in
theorem run_key_all (w:World) (g:Nat):(Instr.sliceAt 60 (.pointer (some ⟨g,0,none⟩)) none none none).run Tryz.prog w=.ok (.slice (some ⟨g,0,none⟩) 32 32) w:=by kernel_rfl
set_option maxRecDepth 100000 in
set_option maxHeartbeats 1600000 in
theorem read_leaf {w:World} {a:Option Addr} {c:Nat} {l:List UInt8} (hv:BytesAt w (.slice a l.length c) l) (h32:32≤l.length) :
  Calls Tryz.prog 99 #[.int .i64 1,.slice a l.length c] w fun e w'=>e=.returned (.iface 189 (.agg (leafC (l.take 32) (sliced a 32 l.length c 1)).toArray))∧Keeps [] w w':=by
 obtain ⟨a0,c0,hf,hc1,hc2⟩:=hv.form
 injection hf with hfa _ hfc
 subst hfa hfc
 obtain ⟨n,hn⟩:∃ n,n=l.length:=⟨_,rfl⟩
 obtain ⟨vv,hvv⟩:∃ vv,vv=sliced a 32 n c 1:=⟨_,rfl⟩
 have hrs:=fun wx=>sl_run_slice_from wx a n c 32 (by omega) (by omega)
 have hbk:=sl_bytes_back hv h32 hc2
 rw [← hn] at hbk hv hc1 h32 ⊢
 rw [← hvv] at hbk
 simp only [← hvv] at hrs
 rw [← hvv]
 obtain ⟨va,vc,hve,_,_⟩:=hbk.form
 obtain ⟨vn,hvn⟩:∃ vn,vn=(l.drop 32).length:=⟨_,rfl⟩
 rw [← hvn] at hve
 subst hve
 have hblk:∀ k,(Value.slice va vn vc).elemBlock=some k→k < w.heap.size:=fun k hk=>by
  rcases hbk with ⟨_,_,_,e,_⟩ | ⟨g,o,cap,e,_,_,hg,_⟩
  ·rw [e] at hk;simp [Value.elemBlock] at hk
  ·rw [e] at hk
   have:=elem_block_some hk
   omega
 obtain ⟨Z,hZ,hZi,hZ1⟩:∃ Z:List Value,Z.length=33∧(Tryz.prog.info? 189).map (fun i=>(i.zero,i.size,i.bytes))=some (some (.agg Z.toArray),33,56)∧True:=⟨_,leafC_length (by simp [z32]) _,info_nleaf,trivial⟩
 obtain ⟨C,hC⟩:∃ C,C=leafC z32 (.slice va vn vc):=⟨_,rfl⟩
 obtain ⟨C2,hC2⟩:∃ C,C=leafC (l.take 32) (.slice va vn vc):=⟨_,rfl⟩
 have hCl:C.length=33:=by rw [hC];exact leafC_length (by simp [z32]) _
 have hC2l:C2.length=33:=by rw [hC2];exact leafC_length (by rw [List.length_take,← hn];omega) _
 have hbld:=fun wx=>run_build_leaf va vn vc wx
 rw [← hC] at hbld
 obtain ⟨q,hq⟩:∃ q,q=w.heap.size:=⟨_,rfl⟩
 obtain ⟨w1,hw1⟩:∃ x,x=(w.alloc (.cells Z.toArray 189 (0,0))).setCells q 0 C:=⟨_,rfl⟩
 have hst:=run_store_cells (w:=w.alloc (.cells Z.toArray 189 (0,0))) (q:=q) (cs:=C) (heap_new_at hq) hZ hCl size_nleaf (by rw [hC];exact leafC_ones)
 rw [← hw1] at hst
 have b1:w1.heap[q]?=some (.cells C.toArray 189 (0,0)):=by rw [hw1];exact store_all (heap_new_at hq) (by rw [hZ,hCl])
 have k1:Keeps [] w w1:=by rw [hw1];exact ((Keeps.refl _ _).alloc _).setCells (.inr (by omega)) _ _
 have hcp:=fun ty=>run_copy_to (m:=32) (c1:=32) (o:=0) (k:=32) b1 (hv.keeps k1 (by simp)) (by omega) hn.symm (by show 32=min n 32;omega) (by omega) ty
 have hcur:C.take 0++(l.take 32).map B++C.drop (0+32)=C2:=by rw [hC,hC2];simp [leafC,z32,List.drop_append]
 simp only [hcur] at hcp
 obtain ⟨w2,hw2⟩:∃ x,x=w1.setRow q C2.toArray:=⟨_,rfl⟩
 rw [← hw2] at hcp
 have b2:w2.heap[q]?=some (.cells C2.toArray 189 (0,0)):=by rw [hw2];exact setRow_heap w1 q _ _ _ _ b1
 have k2:Keeps [] w w2:=by rw [hw2];exact k1.setRow (.inr (by omega)) _
 have HRS:=Lib.hid hrs
 have HBLD:=Lib.hid hbld
 have HZI:=Lib.hid hZi
 have HST:=Lib.hid hst
 have HCP:=Lib.hid hcp
 have HQ:=Lib.hid hq
 have HR2:=Lib.hid (rangeAt_all b2)
 have HSL:=Lib.hid (show (Tryz.prog.info? 189).map (·.size)=some C2.length by rw [hC2l];exact size_nleaf)
 have HV2:=Lib.hid (hbk.keeps k2 (by simp))
 have HK2:=Lib.hid k2
 have HC2:=Lib.hid hC2
 have hcm:(32:Int)≤(n:Int):=by omega
 clear hvv hrs hbld hZ hZi hZ1 hst hcp hq b1 b2 k1 k2 hw1 hw2 hC hC2 hCl hC2l hcur hblk hbk hv hn hvn
 rw [← HC2.out]
 go_enter Tryz.func99,Tryz.ntmps99
 go_upto_region 3 with (first | (refine wl_slice rfl 36 (.tmp 15) (some (.const (.int .i64 32))) none none rfl ?_;refine ⟨_,_,HRS.out _,?_⟩;try simp only [zA,zB,zC,zD,zE,zF,zG,zH]) | (refine wl_build rfl 189 #[(1,.tmp 16)] #[(1,.slice va vn vc)] rfl (by simp [Act.eval]) ?_;refine ⟨_,_,HBLD.out _,?_⟩;try simp only [zA,zB,zC,zD,zE,zF,zG,zH]) | (refine wl_alloc rfl 189 rfl ?_;refine ⟨_,_,run_alloc _ HZI.out,?_⟩;(try simp only [Value.cells]);rw [← HQ.out];try simp only [zA,zB,zC,zD,zE,zF,zG,zH]) | (refine wl_store rfl 189 (.tmp 5) (.tmp 17) rfl ?_;refine ⟨_,HST.out,?_⟩;try simp only [zA,zB,zC,zD,zE,zF,zG,zH]))
 go_wp2_with (first | (refine wl_slice rfl 60 (.tmp 18) none none none rfl ?_;refine ⟨_,_,run_key_all _ _,?_⟩;try simp only [zA,zB,zC,zD,zE,zF,zG,zH]) | (refine wl_builtin rfl .copy #[.tmp 19,.tmp 20] #[36,36] rfl ?_;simp only [List.map_toArray,List.map_cons,List.map_nil];refine ⟨_,_,run_builtin_copy (HCP.out _),?_⟩;try simp only [zA,zB,zC,zD,zE,zF,zG,zH]) | (refine wpList_load_mid rfl 189 (.tmp 5) rfl q 0 (by rfl) C2 _ HR2.out Tryz.underlying189 rfl HSL.out ?_;try simp only [zA,zB,zC,zD,zE,zF,zG,zH]))
 go_ret
 exact ⟨rfl,HK2.out⟩
end Go.Proofs.YtakaocenbempmaaGreatDoor
