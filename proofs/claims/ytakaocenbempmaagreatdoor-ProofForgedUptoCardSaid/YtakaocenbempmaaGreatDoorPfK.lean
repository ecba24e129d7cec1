/-
  Lemmas of a claim, bundle K: XR1B XR1C XBaA.
-/
import Derived.Test.YtakaocenbempmaaGreatDoorPfF
import Derived.Test.YtakaocenbempmaaGreatDoorPfG
import Derived.Test.YtakaocenbempmaaGreatDoorPfI
import Derived.Lib.Strings
import Derived.Lib.Slices
import Derived.Lib.Small
import Derived.Lib.Walk
import Derived.Lib.BitFns
import Derived.Test.YtakaocenbempmaaGreatDoorPfJ
import Derived.Test.YtakaocenbempmaaGreatDoorPfB
set_option linter.unusedVariables false
set_option linter.unusedSimpArgs false
namespace Go.Proofs.YtakaocenbempmaaGreatDoor
open Go.RowKit
theorem info_64u32:(Tryz.prog.info? 181).map (fun i=>(i.zero,i.size,i.bytes))=some (some (.agg ((List.replicate 64 0).map W32).toArray),64,256):=by kernel_rfl
theorem size_64u32:(Tryz.prog.info? 181).map (·.size)=some 64:=by kernel_rfl
theorem W32_one (l:List Nat):∀ v∈l.map W32,v.oneCell'=true:=by
 intro v hv
 obtain ⟨x,_,rfl⟩:=List.mem_map.1 hv
 rfl
theorem run_store_wds {w:World} {q:Nat} {t:TypeId} {z x:List Nat} {n:Nat} (h:Wds w q t z) (hz:z.length=n) (hl:x.length=n) (hs:(Tryz.prog.info? t).map (·.size)=some n) :
  (Instr.storeAt t (.pointer (some ⟨q,0,none⟩)) (.agg (x.map W32).toArray)).run Tryz.prog w=.ok () (w.setCells q 0 (x.map W32)):=by
 have:=run_storeAt_mid (P:=Tryz.prog) w q 0 t (x.map W32).toArray (there_all h 0 _ (by simp [hl,hz])) (by rw [hs];simp [hl]) (all_oneCell_toArray (W32_one x))
 simpa using this
theorem wds_store {w:World} {q:Nat} {t:TypeId} {z x:List Nat} (h:Wds w q t z) (hl:z.length=x.length):Wds (w.setCells q 0 (x.map W32)) q t x:=store_all h (by simp [hl])
theorem Wds.range {w:World} {q:Nat} {t:TypeId} {z:List Nat} (h:Wds w q t z):w.rangeAt q 0 (z.map W32):=rangeAt_all h
set_option maxRecDepth 100000 in
set_option maxHeartbeats 6400000 in
theorem words_any {w:World} {g o N c at_:Nat} {L p:List UInt8} (hr:w.rangeAt g o (L.map B)) (hg:g < w.heap.size) (hN:L.length=N) (hat:at_+64≤N) (hNm:N≤1099511627776) (hp:p=(L.drop at_).take 64) :
  Calls Tryz.prog 103 #[.slice (some ⟨g,o,none⟩) N c,.int .i64 at_] w fun e w'=>e=.returned (.agg ((sched p 64).map W32).toArray)∧Keeps [] w w':=by
 obtain ⟨Z,hZ,hZi⟩:∃ Z:List Nat,Z=List.replicate 64 0∧(Tryz.prog.info? 181).map (fun i=>(i.zero,i.size,i.bytes))=some (some (.agg (Z.map W32).toArray),64,256):=⟨_,rfl,info_64u32⟩
 have hZl:Z.length=64:=by rw [hZ];simp
 obtain ⟨g4,hg4⟩:∃ x,x=w.heap.size:=⟨_,rfl⟩
 obtain ⟨gw,hgw0⟩:∃ x,x=(w.alloc (.cells (Z.map W32).toArray 181 (0,0))).heap.size:=⟨_,rfl⟩
 have hgw:gw=w.heap.size+1:=by rw [hgw0];simp
 obtain ⟨w1,hw1⟩:∃ x,x=(w.alloc (.cells (Z.map W32).toArray 181 (0,0))).alloc (.cells (Z.map W32).toArray 181 (0,0)):=⟨_,rfl⟩
 have k1:Keeps [] w w1:=by rw [hw1];exact ((Keeps.refl _ _).alloc _).alloc _
 have z4:Wds w1 g4 181 Z:=by rw [hw1];exact (heap_old_at (by simp;omega)).trans (heap_new_at hg4)
 have zw:Wds w1 gw 181 Z:=by rw [hw1];exact heap_new_at (by simp;omega)
 have hbyte:∀ wx,Keeps [gw] w1 wx→∀ i,i < 64→wx.cell? ⟨g,o+(at_+i),none⟩=some (.int .u8 ((p.getD i 0).toNat:Nat)):=fun wx hk i hi=>by
  have hb:wx.heap[g]?=w.heap[g]?:=(hk.block g (by have:=k1.size;omega) (by simp;omega)).trans (k1.block g hg (by simp))
  refine range_byte hr hb ?_
  rw [hp,List.getD_eq_getElem?_getD,List.getElem?_take_of_lt hi,List.getElem?_drop,List.getElem?_eq_getElem (by omega)]
  rfl
 have HB:=Lib.hid hbyte
 have HZ:=Lib.hid hZ
 have HZI:=Lib.hid hZi
 have HZL:=Lib.hid hZl
 have HG4:=Lib.hid hg4
 have HGW0:=Lib.hid hgw0
 have HGW:=Lib.hid hgw
 have HW1:=Lib.hid hw1
 have HK1:=Lib.hid k1
 have HZ4:=Lib.hid z4
 have HZW:=Lib.hid zw
 clear hr hg hN hp hZ hZi hZl hg4 hgw0 hgw hw1 k1 z4 zw hbyte
 go_enter Tryz.func103,Tryz.ntmps103
 go_upto_region 2 with (first | (refine wl_alloc rfl 181 rfl ?_;refine ⟨_,_,run_alloc _ HZI.out,?_⟩;try simp only [zA,zB,zC,zD,zE,zF,zG,zH]))
 try simp only [Value.cells]
 rw [← HW1.out,← HGW0.out,← HG4.out]
 go_wp2_with fail
 go_loopw [6] (fun iv wr=>∃ k:Nat,k≤16∧iv=.int .i64 k∧Wds wr gw 181 (sched p k++List.replicate (64 - k) 0)∧Keeps [gw] w1 wr) (fun iv _=>16 - (intOf iv).toNat)
 case atStart=>exact ⟨0,Nat.zero_le _,rfl,by have:=HZW.out;rw [HZ.out] at this;exact this,Keeps.refl _ _⟩
 case round =>
  obtain ⟨k,hk,rfl,hws,hkr⟩:=hrel
  have HWS:=Lib.hid hws
  have HKR:=Lib.hid hkr
  clear hws hkr
  have k0:(0:Int)≤(k:Int):=by omega
  by_cases hlt:k < 16
  ·have k1:(k:Int) < 16:=by omega
   obtain ⟨a,ha⟩:∃ a,a=(p.getD (4 * k) 0).toNat:=⟨_,rfl⟩
   obtain ⟨b,hb⟩:∃ b,b=(p.getD (4 * k+1) 0).toNat:=⟨_,rfl⟩
   obtain ⟨c',hc⟩:∃ c,c=(p.getD (4 * k+2) 0).toNat:=⟨_,rfl⟩
   obtain ⟨d,hd⟩:∃ d,d=(p.getD (4 * k+3) 0).toNat:=⟨_,rfl⟩
   have ba:a < 256:=by rw [ha];exact UInt8.toNat_lt _
   have bb:b < 256:=by rw [hb];exact UInt8.toNat_lt _
   have bc:c' < 256:=by rw [hc];exact UInt8.toNat_lt _
   have bd:d < 256:=by rw [hd];exact UInt8.toNat_lt _
   obtain ⟨i,hi⟩:∃ i:Nat,i=at_+4 * k:=⟨_,rfl⟩
   have hcell:∀ wx,Keeps [gw] w1 wx→wx.cell? ⟨g,o+i,none⟩=some (.int .u8 a)∧wx.cell? ⟨g,o+(i+1),none⟩=some (.int .u8 b)∧wx.cell? ⟨g,o+(i+2),none⟩=some (.int .u8 c')∧wx.cell? ⟨g,o+(i+3),none⟩=some (.int .u8 d):=fun wx h=>by
    rw [ha,hb,hc,hd,hi]
    exact ⟨HB.out wx h (4 * k) (by omega),HB.out wx h (4 * k+1) (by omega),HB.out wx h (4 * k+2) (by omega),HB.out wx h (4 * k+3) (by omega)⟩
   have HC:=Lib.hid hcell
   obtain ⟨X,hX⟩:∃ X,X=a * 16777216+b * 65536+c' * 256+d:=⟨_,rfl⟩
   have eb:=be_bits ba bb bc bd
   rw [← hX] at eb
   have HX:=Lib.hid (show X=be4 p k by rw [hX,ha,hb,hc,hd];rfl)
   have ei:(at_:Int)+4 * (k:Int)=(i:Int):=by omega
   have ik:i+3 < N:=by omega
   have HI:=Lib.hid hi
   clear ha hb hc hd hX hcell hi
   go_upto_region 6 with fail
   have w1':IntKind.i64.wrap ((i:Int)+1)=(i:Int)+1:=IntWalk.i64_in _ (by omega)
   have w2':IntKind.i64.wrap ((i:Int)+2)=(i:Int)+2:=IntWalk.i64_in _ (by omega)
   have w3':IntKind.i64.wrap ((i:Int)+3)=(i:Int)+3:=IntWalk.i64_in _ (by omega)
   have t1:((i:Int)+1).toNat=i+1:=by omega
   have t2:((i:Int)+2).toNat=i+2:=by omega
   have t3:((i:Int)+3).toNat=i+3:=by omega
   have b0:(0:Int)≤(i:Int):=by omega
   have b1:(0:Int)≤(i:Int)+1:=by omega
   have b2:(0:Int)≤(i:Int)+2:=by omega
   have b3:(0:Int)≤(i:Int)+3:=by omega
   have d0:(i:Int) < (N:Int):=by omega
   have d1:(i:Int)+1 < (N:Int):=by omega
   have d2:(i:Int)+2 < (N:Int):=by omega
   have d3:(i:Int)+3 < (N:Int):=by omega
   have ua:IntKind.u32.wrap (a:Int)=(a:Int):=by rw [wrap_u32'];omega
   have ub:IntKind.u32.wrap (b:Int)=(b:Int):=by rw [wrap_u32'];omega
   have uc:IntKind.u32.wrap (c':Int)=(c':Int):=by rw [wrap_u32'];omega
   have ud:IntKind.u32.wrap (d:Int)=(d:Int):=by rw [wrap_u32'];omega
   have va:IntKind.u32.wrap ((a:Int) * 16777216)=(a:Int) * 16777216:=by rw [wrap_u32'];omega
   have vb:IntKind.u32.wrap ((b:Int) * 65536)=(b:Int) * 65536:=by rw [wrap_u32'];omega
   have vc:IntKind.u32.wrap ((c':Int) * 256)=(c':Int) * 256:=by rw [wrap_u32'];omega
   clear ba bb bc bd
   refine wp_region_held_drew (S:=(fun w'=>w'.cell? ⟨g,o+i,none⟩=some (.int .u8 a)∧w'.cell? ⟨g,o+(i+1),none⟩=some (.int .u8 b)∧w'.cell? ⟨g,o+(i+2),none⟩=some (.int .u8 c')∧w'.cell? ⟨g,o+(i+3),none⟩=some (.int .u8 d))) (by kernel_rfl) ?_ (fun hHeld=>?_)
   ·exact HC.out wr.drew HKR.out.drew
   have l64:(sched p k++List.replicate (64 - k) 0).length=64:=by rw [List.length_append,sched_length,List.length_replicate];omega
   have L64:=Lib.hid l64
   clear l64
   have cw:=HWS.out.cell k (by rw [L64.out];omega)
   have fw:=HWS.out.free k
   have kw:(k:Int) < 64:=by omega
   refine tk 0 ?_
   refine tk 1 ?_
   refine tk 2 ?_
   refine tk 3 ?_
   refine tk 4 ?_
   refine tk 5 ?_
   refine tk 6 ?_
   refine tk 7 ?_
   refine tk 8 ?_
   refine tk 9 ?_
   refine tk 10 ?_
   refine tk 11 ?_
   refine tk 12 ?_
   refine tk 13 ?_
   refine tk 14 ?_
   refine tk 15 ?_
   refine tk 16 ?_
   refine tk 17 ?_
   refine tk 18 ?_
   refine tk 19 ?_
   refine tk 20 ?_
   refine tk 21 ?_
   refine tk 22 ?_
   refine tk 23 ?_
   refine tk 24 ?_
   refine tk 25 ?_
   refine tk 26 ?_
   refine tk 27 ?_
   refine tk 28 ?_
   refine tk 29 ?_
   refine tk 30 ?_
   refine ac 31 fun K hK=>?_
   go_simp
   refine hK.out _ _ ?_ (fun hHeld=>?_)
   ·exact HC.out _ ((HKR.out.setCell (.inl (by simp)) _).drew)
   clear hK K
   try simp only [zA,zB,zC,zD,zE,zF,zG,zH]
   refine wpAnyH_done (by kernel_rfl) ?_ _
   clear hHeld
   go_wp2_with fail
   go_roundw
   case rel =>
    refine ⟨k+1,by omega,by go_num,?_,(HKR.out.setCell (.inl (by simp)) _).drew⟩
    have h:=HWS.out.set k X
    rw [sched_set (by omega)] at h
    rw [sched_succ_lt hlt,← HX.out]
    exact h
   case measure=>simp [intOf];omega
  ·have k1:¬ (k:Int) < 16:=by omega
   obtain rfl:k=16:=by omega
   have HW16:=Lib.hid HWS.out
   go_wp2_with fail
   go_loopw [8] (fun iv wr=>∃ k:Nat,16≤k∧k≤64∧iv=.int .i64 k∧Wds wr gw 181 (sched p k++List.replicate (64 - k) 0)∧Keeps [gw] w1 wr) (fun iv _=>64 - (intOf iv).toNat)
   case atStart=>exact ⟨16,by omega,by omega,rfl,HW16.out,HKR.out⟩
   case round =>
    obtain ⟨k,hk16,hk,rfl,hws,hkr⟩:=hrel
    have HWS:=Lib.hid hws
    have HKR:=Lib.hid hkr
    clear hws hkr k1 k0 HW16
    have k0:(0:Int)≤(k:Int):=by omega
    by_cases hlt:k < 64
    ·have k1:(k:Int) < 64:=by omega
     have l64:(sched p k++List.replicate (64 - k) 0).length=64:=by rw [List.length_append,sched_length,List.length_replicate];omega
     have L64:=Lib.hid l64
     have hcell:∀ wx,Keeps [] wr wx→∀ j,j < 64→wx.cell? ⟨gw,j,none⟩=some (.int .u32 ((sched p k++List.replicate (64 - k) 0).getD j 0:Nat)):=fun wx hkx j hj=>(HWS.out.keeps hkx (by simp)).cell j (by rw [L64.out];exact hj)
     have hgd:∀ j,j < k→(sched p k++List.replicate (64 - k) 0).getD j 0=(sched p k).getD j 0:=fun j hj=>by
      rw [List.getD_eq_getElem?_getD,List.getElem?_append_left (by rw [sched_length];exact hj),← List.getD_eq_getElem?_getD]
     have hltw:∀ j,j < k→(sched p k).getD j 0 < 4294967296:=fun j hj=>by
      rw [List.getD_eq_getElem?_getD,List.getElem?_eq_getElem (by rw [sched_length];exact hj)]
      exact sched_lt p k _ (List.getElem_mem _)
     obtain ⟨k2,i2⟩:∃ j:Nat,(k:Int) - 2=(j:Int):=⟨k - 2,by omega⟩
     obtain ⟨k7,i7⟩:∃ j:Nat,(k:Int) - 7=(j:Int):=⟨k - 7,by omega⟩
     obtain ⟨k15,i15⟩:∃ j:Nat,(k:Int) - 15=(j:Int):=⟨k - 15,by omega⟩
     obtain ⟨k16,i16⟩:∃ j:Nat,(k:Int) - 16=(j:Int):=⟨k - 16,by omega⟩
     obtain ⟨x,hx⟩:∃ x,x=(sched p k).getD k2 0:=⟨_,rfl⟩
     obtain ⟨v,hv⟩:∃ x,x=(sched p k).getD k7 0:=⟨_,rfl⟩
     obtain ⟨y,hy⟩:∃ x,x=(sched p k).getD k15 0:=⟨_,rfl⟩
     obtain ⟨z,hz⟩:∃ x,x=(sched p k).getD k16 0:=⟨_,rfl⟩
     have bx:x < 4294967296:=by rw [hx];exact hltw _ (by omega)
     have bv:v < 4294967296:=by rw [hv];exact hltw _ (by omega)
     have by':y < 4294967296:=by rw [hy];exact hltw _ (by omega)
     have bz:z < 4294967296:=by rw [hz];exact hltw _ (by omega)
     have cells:∀ wx,Keeps [] wr wx→wx.cell? ⟨gw,k2,none⟩=some (.int .u32 x)∧wx.cell? ⟨gw,k7,none⟩=some (.int .u32 v)∧wx.cell? ⟨gw,k15,none⟩=some (.int .u32 y)∧wx.cell? ⟨gw,k16,none⟩=some (.int .u32 z):=fun wx hkx=>by
      rw [hx,hv,hy,hz,← hgd k2 (by omega),← hgd k7 (by omega),← hgd k15 (by omega),← hgd k16 (by omega)]
      exact ⟨hcell wx hkx _ (by omega),hcell wx hkx _ (by omega),hcell wx hkx _ (by omega),hcell wx hkx _ (by omega)⟩
     have HC:=Lib.hid cells
     have R17:∀ wx,Calls Tryz.prog 116 #[.int .u32 x,.int .u64 17] wx fun e w'=>e=.returned (.int .u32 (rotl x 15))∧wx=w':=fun wx=>turn_any x 17 15 bx (by omega) (by omega) (by omega)
     have R19:∀ wx,Calls Tryz.prog 116 #[.int .u32 x,.int .u64 19] wx fun e w'=>e=.returned (.int .u32 (rotl x 13))∧wx=w':=fun wx=>turn_any x 19 13 bx (by omega) (by omega) (by omega)
     have R7:∀ wx,Calls Tryz.prog 116 #[.int .u32 y,.int .u64 7] wx fun e w'=>e=.returned (.int .u32 (rotl y 25))∧wx=w':=fun wx=>turn_any y 7 25 by' (by omega) (by omega) (by omega)
     have R18:∀ wx,Calls Tryz.prog 116 #[.int .u32 y,.int .u64 18] wx fun e w'=>e=.returned (.int .u32 (rotl y 14))∧wx=w':=fun wx=>turn_any y 18 14 by' (by omega) (by omega) (by omega)
     obtain ⟨A1,hA1⟩:∃ a,a=rotl x 15:=⟨_,rfl⟩
     obtain ⟨A2,hA2⟩:∃ a,a=rotl x 13:=⟨_,rfl⟩
     obtain ⟨A3,hA3⟩:∃ a,a=rotl y 25:=⟨_,rfl⟩
     obtain ⟨A4,hA4⟩:∃ a,a=rotl y 14:=⟨_,rfl⟩
     rw [← hA1] at R17
     rw [← hA2] at R19
     rw [← hA3] at R7
     rw [← hA4] at R18
     have ba1:A1 < 4294967296:=by rw [hA1];exact rotl_lt _ _ bx
     have ba2:A2 < 4294967296:=by rw [hA2];exact rotl_lt _ _ bx
     have ba3:A3 < 4294967296:=by rw [hA3];exact rotl_lt _ _ by'
     have ba4:A4 < 4294967296:=by rw [hA4];exact rotl_lt _ _ by'
     obtain ⟨B1,hB1⟩:∃ a,a=A1 ^^^ A2:=⟨_,rfl⟩
     obtain ⟨B2,hB2⟩:∃ a,a=A3 ^^^ A4:=⟨_,rfl⟩
     have bb1:B1 < 4294967296:=by rw [hB1];exact xor_lt32 ba1 ba2
     have bb2:B2 < 4294967296:=by rw [hB2];exact xor_lt32 ba3 ba4
     have e1:=bits_xor_u32 ba1 ba2
     have e2:=bits_xor_u32 ba3 ba4
     rw [← hB1] at e1
     rw [← hB2] at e2
     obtain ⟨x10,hx10⟩:∃ a,a=x / 1024:=⟨_,rfl⟩
     obtain ⟨y3,hy3⟩:∃ a,a=y / 8:=⟨_,rfl⟩
     have e3:(x:Int) / 1024=(x10:Int):=by omega
     have e4:(y:Int) / 8=(y3:Int):=by omega
     obtain ⟨L1,hL1⟩:∃ a,a=B1 ^^^ x10:=⟨_,rfl⟩
     obtain ⟨L0,hL0⟩:∃ a,a=B2 ^^^ y3:=⟨_,rfl⟩
     have e5:=bits_xor_u32 bb1 (show x10 < 4294967296 by omega)
     have e6:=bits_xor_u32 bb2 (show y3 < 4294967296 by omega)
     rw [← hL1] at e5
     rw [← hL0] at e6
     obtain ⟨T1,hT1⟩:∃ a,a=(L1+v) % 4294967296:=⟨_,rfl⟩
     obtain ⟨T2,hT2⟩:∃ a,a=(T1+L0) % 4294967296:=⟨_,rfl⟩
     obtain ⟨T3,hT3⟩:∃ a,a=(T2+z) % 4294967296:=⟨_,rfl⟩
     have u1:IntKind.u32.wrap ((L1:Int)+(v:Int))=(T1:Int):=by rw [wrap_u32'];omega
     have u2:IntKind.u32.wrap ((T1:Int)+(L0:Int))=(T2:Int):=by rw [wrap_u32'];omega
     have u3:IntKind.u32.wrap ((T2:Int)+(z:Int))=(T3:Int):=by rw [wrap_u32'];omega
     have hT:T3=shaNext (sched p k):=by
      have q2:k2=k - 2:=by omega
      have q7:k7=k - 7:=by omega
      have q15:k15=k - 15:=by omega
      have q16:k16=k - 16:=by omega
      unfold shaNext shaS1 shaS0
      rw [sched_length,← q2,← q7,← q15,← q16,← hx,← hv,← hy,← hz,← hA1,← hA2,← hA3,← hA4,← hB1,← hB2,← hx10,← hy3,← hL1,← hL0]
      omega
     have HT:=Lib.hid hT
     have wk2:IntKind.i64.wrap (k2:Int)=(k2:Int):=IntWalk.i64_in _ (by omega)
     have wk7:IntKind.i64.wrap (k7:Int)=(k7:Int):=IntWalk.i64_in _ (by omega)
     have wk15:IntKind.i64.wrap (k15:Int)=(k15:Int):=IntWalk.i64_in _ (by omega)
     have wk16:IntKind.i64.wrap (k16:Int)=(k16:Int):=IntWalk.i64_in _ (by omega)
     have p2:(k2:Int) < 64:=by omega
     have p7:(k7:Int) < 64:=by omega
     have p15:(k15:Int) < 64:=by omega
     have p16:(k16:Int) < 64:=by omega
     have HNE:=Lib.hid (show k7≠k∧k16≠k by omega)
     have HR17:=Lib.hid R17
     have HR19:=Lib.hid R19
     have HR7:=Lib.hid R7
     have HR18:=Lib.hid R18
     clear l64 hcell hgd hltw cells hx hv hy hz bx bv by' bz R17 R19 R7 R18 hA1 hA2 hA3 hA4 ba1 ba2 ba3 ba4 hB1 hB2 bb1 bb2 hx10 hy3 hL1 hL0 hT1 hT2 hT3 hT
     go_upto_region 10 with fail
     refine wp_region_held_drew (S:=(fun w'=>w'.cell? ⟨gw,k2,none⟩=some (.int .u32 x))) (by kernel_rfl) ?_ (fun hHeld=>?_)
     ·have h:=HC.out wr.drew (Keeps.refl _ _).drew
      exact h.1
     refine tk 0 ?_
     refine tk 1 ?_
     refine tk 2 ?_
     refine tk 3 ?_
     refine hc_take (i:=4) (v:=.int .u32 A1) rfl (by kernel_rfl) (by kernel_rfl) (by kernel_rfl) (fun _ _ _ h=>h) (yieldsC_call (by rfl) 116 _ _ rfl Tryz.f116 Tryz.func116 (by kernel_rfl) rfl #[.int .u32 x,.int .u64 17] (by simp [Act.eval]) (fun w0 _=>HR17.out w0)) (by assumption) ?_
     try simp only [zA,zB,zC,zD,zE,zF,zG,zH]
     refine tk 5 ?_
     refine tk 6 ?_
     refine tk 7 ?_
     refine tk 8 ?_
     refine hc_take (i:=9) (v:=.int .u32 A2) rfl (by kernel_rfl) (by kernel_rfl) (by kernel_rfl) (fun _ _ _ h=>h) (yieldsC_call (by rfl) 116 _ _ rfl Tryz.f116 Tryz.func116 (by kernel_rfl) rfl #[.int .u32 x,.int .u64 19] (by simp [Act.eval]) (fun w0 _=>HR19.out w0)) (by assumption) ?_
     try simp only [zA,zB,zC,zD,zE,zF,zG,zH]
     refine tk 10 ?_
     refine tk 11 ?_
     refine tk 12 ?_
     refine tk 13 ?_
     refine tk 14 ?_
     refine tk 15 ?_
     refine tk 16 ?_
     refine tk 17 ?_
     refine wpAnyH_done (by kernel_rfl) ?_ _
     clear hHeld
     go_upto_region 11 with fail
     refine wp_region_held_drew (S:=(fun w'=>w'.cell? ⟨gw,k15,none⟩=some (.int .u32 y))) (by kernel_rfl) ?_ (fun hHeld=>?_)
     ·have h:=HC.out wr.drew.drew (Keeps.refl _ _).drew.drew
      exact h.2.2.1
     refine tk 0 ?_
     refine tk 1 ?_
     refine tk 2 ?_
     refine tk 3 ?_
     refine hc_take (i:=4) (v:=.int .u32 A3) rfl (by kernel_rfl) (by kernel_rfl) (by kernel_rfl) (fun _ _ _ h=>h) (yieldsC_call (by rfl) 116 _ _ rfl Tryz.f116 Tryz.func116 (by kernel_rfl) rfl #[.int .u32 y,.int .u64 7] (by simp [Act.eval]) (fun w0 _=>HR7.out w0)) (by assumption) ?_
     try simp only [zA,zB,zC,zD,zE,zF,zG,zH]
     refine tk 5 ?_
     refine tk 6 ?_
     refine tk 7 ?_
     refine tk 8 ?_
     refine hc_take (i:=9) (v:=.int .u32 A4) rfl (by kernel_rfl) (by kernel_rfl) (by kernel_rfl) (fun _ _ _ h=>h) (yieldsC_call (by rfl) 116 _ _ rfl Tryz.f116 Tryz.func116 (by kernel_rfl) rfl #[.int .u32 y,.int .u64 18] (by simp [Act.eval]) (fun w0 _=>HR18.out w0)) (by assumption) ?_
     try simp only [zA,zB,zC,zD,zE,zF,zG,zH]
     refine tk 10 ?_
     refine tk 11 ?_
     refine tk 12 ?_
     refine tk 13 ?_
     refine tk 14 ?_
     refine tk 15 ?_
     refine tk 16 ?_
     refine tk 17 ?_
     refine wpAnyH_done (by kernel_rfl) ?_ _
     clear hHeld
     go_upto_region 12 with fail
     have cw:=HWS.out.cell k (by rw [L64.out];omega)
     have fw:=HWS.out.free k
     refine wp_region_held_drew (S:=(fun w'=>w'.cell? ⟨gw,k7,none⟩=some (.int .u32 v)∧w'.cell? ⟨gw,k16,none⟩=some (.int .u32 z))) (by kernel_rfl) ?_ (fun hHeld=>?_)
     ·have h:=HC.out wr.drew.drew.drew (Keeps.refl _ _).drew.drew.drew
      exact ⟨h.2.1,h.2.2.2⟩
     refine tk 0 ?_
     refine tk 1 ?_
     refine tk 2 ?_
     refine tk 3 ?_
     refine tk 4 ?_
     refine tk 5 ?_
     refine tk 6 ?_
     refine tk 7 ?_
     refine tk 8 ?_
     refine tk 9 ?_
     refine tk 10 ?_
     refine tk 11 ?_
     refine tk 12 ?_
     refine tk 13 ?_
     refine tk 14 ?_
     refine ac 15 fun K hK=>?_
     go_simp
     refine hK.out _ _ ?_ (fun hHeld=>?_)
     ·have h:=HC.out wr (Keeps.refl _ _)
      exact ⟨(cell_set_off _ HNE.out.1).trans h.2.1,(cell_set_off _ HNE.out.2).trans h.2.2.2⟩
     clear hK K
     try simp only [zA,zB,zC,zD,zE,zF,zG,zH]
     refine wpAnyH_done (by kernel_rfl) ?_ _
     clear hHeld
     go_wp2_with fail
     go_roundw
     case rel =>
      refine ⟨k+1,by omega,by omega,by go_num,?_,(HKR.out.setCell (.inl (by simp)) _).drew.drew.drew⟩
      have h:=HWS.out.set k T3
      rw [sched_set (by omega)] at h
      rw [sched_succ_ge hk16,← HT.out]
      exact h
     case measure=>simp [intOf];omega
    ·have k1:¬ (k:Int) < 64:=by omega
     obtain rfl:k=64:=by omega
     have HW64:=Lib.hid (show Wds wr gw 181 (sched p 64) by have h:=HWS.out;rw [Nat.sub_self,List.replicate_zero,List.append_nil] at h;exact h)
     obtain ⟨S,hS⟩:∃ S,S=sched p 64:=⟨_,rfl⟩
     have hSl:S.length=64:=by rw [hS,sched_length]
     have HS:=Lib.hid hS
     have hws:=HW64.out
     rw [← hS] at hws
     have h4:=HZ4.out.keeps HKR.out (by simp;have:=HGW.out;have:=HG4.out;omega)
     have HRG:=Lib.hid hws.range
     have HST:=Lib.hid (run_store_wds h4 HZL.out hSl size_64u32)
     have HWF:=Lib.hid (wds_store (x:=S) h4 (by rw [HZL.out,hSl]))
     have HSL:=Lib.hid (show (Tryz.prog.info? 181).map (·.size)=some (S.map W32).length by rw [List.length_map,hSl];exact size_64u32)
     clear hS hSl hws h4 k1 k0 hlt hk hk16
     go_wp2_with (first | (refine wpList_load_mid rfl 181 (.tmp 5) rfl gw 0 (by rfl) (S.map W32) _ HRG.out Tryz.underlying181 rfl HSL.out ?_;try simp only [zA,zB,zC,zD,zE,zF,zG,zH]) | (refine wl_store rfl 181 (.tmp 4) (.tmp 103) rfl ?_;refine ⟨_,HST.out,?_⟩;try simp only [zA,zB,zC,zD,zE,zF,zG,zH]))
     refine bodyPost_ret (v:=.agg (S.map W32).toArray) (results_row (by rfl) (by rfl) HWF.out.range Tryz.underlying181 rfl HSL.out) rfl ⟨by rw [HS.out],?_⟩
     exact ((HK1.out.trans (G:=[gw]) HKR.out (fun j hj=>.inr (by simp at hj;have:=HGW.out;omega))).mono (by simp)).setCells (.inr (by have:=HG4.out;omega)) _ _
open Go.RowKit
structure RTabs (w:World):Prop where
 round:∀ i,i < 64→w.cell? ⟨3,i,none⟩=some (.int .u32 (shaK.getD i 0:Nat))
 begin:∀ i,i < 8→w.cell? ⟨1,i,none⟩=some (.int .u32 (shaIV.words.getD i 0:Nat))
 lt:3 < w.heap.size∧1 < w.heap.size
theorem RTabs.keeps {w w':World} {F:List Nat} (h:RTabs w) (hk:Keeps F w w') (h1:3 ∉ F) (h2:1 ∉ F):RTabs w' :=
 ⟨fun i hi=>(World.cell?_of_block (w:=w) (w':=w') (a:=⟨3,i,none⟩) (hk.block _ h.lt.1 h1)).trans (h.round i hi),fun i hi=>(World.cell?_of_block (w:=w) (w':=w') (a:=⟨1,i,none⟩) (hk.block _ h.lt.2 h2)).trans (h.begin i hi),by have:=hk.size;have:=h.lt;omega⟩
theorem info_8u32:(Tryz.prog.info? 154).map (fun i=>(i.zero,i.size,i.bytes))=some (some (.agg ((List.replicate 8 0).map W32).toArray),8,32):=by kernel_rfl
theorem size_8u32:(Tryz.prog.info? 154).map (·.size)=some 8:=by kernel_rfl
theorem ch_bits {e f g:Nat} (he:e < 4294967296) (hg:g < 4294967296):(e &&& f) ^^^ ((4294967296 - (e+1)) &&& g)=shaCh e f g:=by
 unfold shaCh
 refine Nat.eq_of_testBit_eq (fun i=>?_)
 simp only [Nat.testBit_xor,Nat.testBit_and]
 have h1:=Nat.testBit_two_pow_sub_succ (x:=e) (n:=32) he i
 rw [show (2:Nat) ^ 32=4294967296 from rfl] at h1
 rw [h1]
 by_cases hi:i < 32
 ·simp only [hi,decide_true,Bool.true_and]
  cases e.testBit i <;> cases f.testBit i <;> cases g.testBit i <;> rfl
 ·have h2:g.testBit i=false:=Nat.testBit_lt_two_pow (Nat.lt_of_lt_of_le hg (by rw [show (4294967296:Nat)=2 ^ 32 from rfl];exact Nat.pow_le_pow_right (by omega) (by omega)))
  have h3:e.testBit i=false:=Nat.testBit_lt_two_pow (Nat.lt_of_lt_of_le he (by rw [show (4294967296:Nat)=2 ^ 32 from rfl];exact Nat.pow_le_pow_right (by omega) (by omega)))
  simp [h2,h3]
theorem not_u32 {e:Nat} (he:e < 4294967296):bits BinOp.xor IntKind.u32 (if IntKind.u32.signed=true then -1 else IntKind.u32.max) (e:Int)=((4294967296 - (e+1):Nat):Int):=by
 have h:4294967295 ^^^ e=4294967296 - (e+1):=by
  refine Nat.eq_of_testBit_eq (fun i=>?_)
  have h1:=Nat.testBit_two_pow_sub_succ (x:=e) (n:=32) he i
  have h0:=Nat.testBit_two_pow_sub_succ (x:=0) (n:=32) (by omega) i
  rw [show (2:Nat) ^ 32=4294967296 from rfl] at h1 h0
  rw [h1,Nat.testBit_xor,show (4294967295:Nat)=4294967296 - (0+1) from rfl,h0]
  by_cases hi:i < 32
  ·simp [hi]
  ·have h3:e.testBit i=false:=Nat.testBit_lt_two_pow (Nat.lt_of_lt_of_le he (by rw [show (4294967296:Nat)=2 ^ 32 from rfl];exact Nat.pow_le_pow_right (by omega) (by omega)))
   simp [hi,h3]
 rw [← h,← bits_xor_u32 (by omega) he]
 rfl
theorem maj_bits (a b c:Nat):((a &&& b) ^^^ (a &&& c)) ^^^ (b &&& c)=shaMaj a b c:=by
 unfold shaMaj
 refine Nat.eq_of_testBit_eq (fun i=>?_)
 simp only [Nat.testBit_xor,Nat.testBit_and,Nat.testBit_or]
 cases a.testBit i <;> cases b.testBit i <;> cases c.testBit i <;> rfl
theorem addW_length (l m:List Nat) (k:Nat):(addW l m k).length=8:=by simp [addW]
theorem addW_getD (l m:List Nat) (k i:Nat) (hi:i < 8):(addW l m k).getD i 0=if i < k then (l.getD i 0+m.getD i 0) % 4294967296 else l.getD i 0:=by
 simp [addW,List.getD_eq_getElem?_getD,hi]
theorem addW_succ (l m:List Nat) (k:Nat) (hk:k < 8):addW l m (k+1)=(addW l m k).set k ((l.getD k 0+m.getD k 0) % 4294967296):=by
 refine List.ext_getElem (by simp [addW]) (fun i h1 h2=>?_)
 simp only [addW_length] at h1
 rw [List.getElem_set]
 simp only [addW,List.getElem_map,List.getElem_range]
 by_cases e:k=i
 ·subst e;simp
 ·rw [if_neg e]
  by_cases h:i < k
  ·rw [if_pos h,if_pos (by omega)]
  ·rw [if_neg h,if_neg (by omega)]
theorem addW_all (s v:S8):addW v.words s.words 8=(s.add v).words:=by
 simp [addW,S8.words,S8.add,List.range_succ,Nat.add_comm]
theorem addW_none (s v:S8):addW v.words s.words 0=v.words:=by
 simp [addW,S8.words,List.range_succ]
set_option maxRecDepth 100000 in
set_option maxHeartbeats 12800000 in
theorem behind_any {w:World} {s:S8} {p:List UInt8} (hs:s.ok) (ht:RTabs w) :
  Calls Tryz.prog 104 #[.agg (s.words.map W32).toArray,.agg ((sched p 64).map W32).toArray] w fun e w'=>e=.returned (.agg ((shaBlock s p).words.map W32).toArray)∧Keeps [] w w':=by
 obtain ⟨Z,hZ,hZi⟩:∃ Z:List Nat,Z=List.replicate 8 0∧(Tryz.prog.info? 154).map (fun i=>(i.zero,i.size,i.bytes))=some (some (.agg (Z.map W32).toArray),8,32):=⟨_,rfl,info_8u32⟩
 have hZl:Z.length=8:=by rw [hZ];simp
 obtain ⟨S,hS⟩:∃ S,S=sched p 64:=⟨_,rfl⟩
 have hSl:S.length=64:=by rw [hS,sched_length]
 have hSlt:∀ i,i < 64→S.getD i 0 < 4294967296:=fun i hi=>by
  rw [List.getD_eq_getElem?_getD,List.getElem?_eq_getElem (by omega)]
  exact sched_lt p 64 _ (by rw [← hS];exact List.getElem_mem _)
 obtain ⟨WS,hWS⟩:∃ WS,WS=s.words:=⟨_,rfl⟩
 have hWl:WS.length=8:=by rw [hWS];rfl
 rw [← hS,← hWS]
 obtain ⟨g2,hg2⟩:∃ x,x=w.heap.size:=⟨_,rfl⟩
 obtain ⟨wa,hwa⟩:∃ x,x=w.alloc (.cells (WS.map W32).toArray 154 (0,0)):=⟨_,rfl⟩
 obtain ⟨g3,hg3⟩:∃ x,x=wa.heap.size:=⟨_,rfl⟩
 obtain ⟨wb,hwb⟩:∃ x,x=wa.alloc (.cells (S.map W32).toArray 181 (0,0)):=⟨_,rfl⟩
 obtain ⟨g4,hg4⟩:∃ x,x=wb.heap.size:=⟨_,rfl⟩
 obtain ⟨wc,hwc⟩:∃ x,x=wb.alloc (.cells (Z.map W32).toArray 154 (0,0)):=⟨_,rfl⟩
 have e3:g3=w.heap.size+1:=by rw [hg3,hwa];simp
 have e4:g4=w.heap.size+2:=by rw [hg4,hwb,hwa];simp
 have ec:wc.heap.size=w.heap.size+3:=by rw [hwc,hwb,hwa];simp
 have k1:Keeps [] w wc:=by rw [hwc,hwb,hwa];exact (((Keeps.refl _ _).alloc _).alloc _).alloc _
 have z4:Wds wc g4 154 Z:=by rw [hwc];exact heap_new_at hg4
 have z3:Wds wc g3 181 S:=by rw [hwc];exact (heap_old_at (by omega)).trans (by rw [hwb];exact heap_new_at hg3)
 have z2:Wds wc g2 154 WS:=by rw [hwc];exact (heap_old_at (by rw [← hg4];omega)).trans (by rw [hwb];exact (heap_old_at (by rw [← hg3];omega)).trans (by rw [hwa];exact heap_new_at hg2))
 obtain ⟨g5,hg5⟩:∃ x,x=wc.heap.size:=⟨_,rfl⟩
 obtain ⟨wd,hwd⟩:∃ x,x=(wc.alloc (.cells (Z.map W32).toArray 154 (0,0))).setCells g5 0 (WS.map W32):=⟨_,rfl⟩
 have z5:Wds (wc.alloc (.cells (Z.map W32).toArray 154 (0,0))) g5 154 Z:=heap_new_at hg5
 have hst:=run_store_wds z5 hZl hWl size_8u32
 rw [← hwd] at hst
 have y5:Wds wd g5 154 WS:=by rw [hwd];exact wds_store z5 (by rw [hZl,hWl])
 have k2:Keeps [] wc wd:=by rw [hwd];exact ((Keeps.refl _ _).alloc _).setCells (.inr (by omega)) _ _
 have ht2:=(ht.keeps k1 (by simp) (by simp)).keeps k2 (by simp) (by simp)
 have HZI:=Lib.hid hZi
 have HZL:=Lib.hid hZl
 have HS:=Lib.hid hS
 have HSL:=Lib.hid hSl
 have HSLT:=Lib.hid hSlt
 have HWSS:=Lib.hid hWS
 have HWL:=Lib.hid hWl
 have HG2:=Lib.hid hg2
 have HWA:=Lib.hid hwa
 have HG3:=Lib.hid hg3
 have HWB:=Lib.hid hwb
 have HG4:=Lib.hid hg4
 have HWC:=Lib.hid hwc
 have HG5:=Lib.hid hg5
 have HWD:=Lib.hid hwd
 have HE:=Lib.hid (And.intro e3 (And.intro e4 ec))
 have HK:=Lib.hid (k1.trans (G:=[]) k2 (by simp))
 have HZ4:=Lib.hid (z4.keeps k2 (by simp))
 have HZ3:=Lib.hid (z3.keeps k2 (by simp))
 have HZ2:=Lib.hid (z2.keeps k2 (by simp))
 have HR2:=Lib.hid (z2.keeps (F:=[]) ((Keeps.refl _ _)) (by simp)).range
 have HY5:=Lib.hid y5
 have HST:=Lib.hid hst
 have HT:=Lib.hid ht2
 have HNG:=Lib.hid (show 3 ∉ [g5]∧1 ∉ [g5] by have:=ht.lt;simp;omega)
 have HOK:=Lib.hid hs
 have HSZ8:=Lib.hid (show (Tryz.prog.info? 154).map (·.size)=some (WS.map W32).length by rw [List.length_map,hWl];exact size_8u32)
 clear hZ hZi hZl hS hSl hSlt hWS hWl hg2 hwa hg3 hwb hg4 hwc hg5 hwd e3 e4 ec k1 k2 z4 z3 z2 y5 z5 hst ht ht2 hs
 go_enter Tryz.func104,Tryz.ntmps104
 go_upto_region 1 with (first | (refine wl_alloc rfl 154 rfl ?_;refine ⟨_,_,run_alloc _ HZI.out,?_⟩;try simp only [zA,zB,zC,zD,zE,zF,zG,zH]))
 try simp only [Value.cells]
 rw [← HWA.out,← HWB.out,← HWC.out,← HG4.out,← HE.out.1,← HG2.out]
 go_wp2_with (first | (refine wpList_load_mid rfl 154 (.tmp 2) rfl g2 0 (by rfl) (WS.map W32) _ HR2.out Tryz.underlying154 rfl HSZ8.out ?_;try simp only [zA,zB,zC,zD,zE,zF,zG,zH]) | (refine wl_alloc rfl 154 rfl ?_;refine ⟨_,_,run_alloc _ HZI.out,?_⟩;(try simp only [Value.cells]);rw [← HG5.out];try simp only [zA,zB,zC,zD,zE,zF,zG,zH]) | (refine wl_store rfl 154 (.tmp 5) (.tmp 13) rfl ?_;refine ⟨_,HST.out,?_⟩;try simp only [zA,zB,zC,zD,zE,zF,zG,zH]))
 go_loopw [6] (fun iv wr=>∃ (k:Nat) (r:S8),k≤64∧iv=.int .i64 k∧r=shaRun s S k∧Wds wr g5 154 r.words∧Keeps [g5] wd wr) (fun iv _=>64 - (intOf iv).toNat)
 case atStart=>exact ⟨0,s,Nat.zero_le _,rfl,rfl,by have:=HY5.out;rwa [HWSS.out] at this,Keeps.refl _ _⟩
 case round =>
  obtain ⟨k,r,hk,rfl,hr,hws,hkr⟩:=hrel
  have HR:=Lib.hid hr
  have HO:=Lib.hid (show r.ok by rw [hr];exact shaRun_ok HOK.out _ _)
  have HWS:=Lib.hid hws
  have HKR:=Lib.hid hkr
  clear hr hws hkr
  have k0:(0:Int)≤(k:Int):=by omega
  by_cases hlt:k < 64
  ·have k1:(k:Int) < 64:=by omega
   obtain ⟨ra,rb,rc,rd,re,rf,rg,rh⟩:=r
   obtain ⟨ba,bb,bc,bd,be,bf,bg,bh⟩:=HO.out
   dsimp only at ba bb bc bd be bf bg bh ⊢
   obtain ⟨K,hK⟩:∃ a,a=shaK.getD k 0:=⟨_,rfl⟩
   obtain ⟨Wk,hWk⟩:∃ a,a=S.getD k 0:=⟨_,rfl⟩
   have bK:K < 4294967296:=by rw [hK];exact shaK_lt k hlt
   have bW:Wk < 4294967296:=by rw [hWk];exact HSLT.out k hlt
   have c0:∀ wx,Keeps [] wr wx→wx.cell? ⟨g5,0,none⟩=some (.int .u32 ra):=fun wx h=>(HWS.out.keeps h (by simp)).cell 0 (by simp [S8.words])
   have c1:∀ wx,Keeps [] wr wx→wx.cell? ⟨g5,1,none⟩=some (.int .u32 rb):=fun wx h=>(HWS.out.keeps h (by simp)).cell 1 (by simp [S8.words])
   have c2:∀ wx,Keeps [] wr wx→wx.cell? ⟨g5,2,none⟩=some (.int .u32 rc):=fun wx h=>(HWS.out.keeps h (by simp)).cell 2 (by simp [S8.words])
   have c3:∀ wx,Keeps [] wr wx→wx.cell? ⟨g5,3,none⟩=some (.int .u32 rd):=fun wx h=>(HWS.out.keeps h (by simp)).cell 3 (by simp [S8.words])
   have c4:∀ wx,Keeps [] wr wx→wx.cell? ⟨g5,4,none⟩=some (.int .u32 re):=fun wx h=>(HWS.out.keeps h (by simp)).cell 4 (by simp [S8.words])
   have c5:∀ wx,Keeps [] wr wx→wx.cell? ⟨g5,5,none⟩=some (.int .u32 rf):=fun wx h=>(HWS.out.keeps h (by simp)).cell 5 (by simp [S8.words])
   have c6:∀ wx,Keeps [] wr wx→wx.cell? ⟨g5,6,none⟩=some (.int .u32 rg):=fun wx h=>(HWS.out.keeps h (by simp)).cell 6 (by simp [S8.words])
   have c7:∀ wx,Keeps [] wr wx→wx.cell? ⟨g5,7,none⟩=some (.int .u32 rh):=fun wx h=>(HWS.out.keeps h (by simp)).cell 7 (by simp [S8.words])
   have cK:∀ wx,Keeps [] wr wx→wx.cell? ⟨3,k,none⟩=some (.int .u32 K):=fun wx h=>by
    rw [hK]
    exact ((HT.out.keeps HKR.out HNG.out.1 HNG.out.2).keeps h (by simp) (by simp)).round k hlt
   have cW:∀ wx,Keeps [] wr wx→wx.cell? ⟨g3,k,none⟩=some (.int .u32 Wk):=fun wx h=>by
    rw [hWk]
    exact ((HZ3.out.keeps HKR.out (by have:=HG5.out;have:=HE.out;simp;omega)).keeps h (by simp)).cell k (by rw [HSL.out];exact hlt)
   have HC0:=Lib.hid c0
   have HC1:=Lib.hid c1
   have HC2:=Lib.hid c2
   have HC3:=Lib.hid c3
   have HC4:=Lib.hid c4
   have HC5:=Lib.hid c5
   have HC6:=Lib.hid c6
   have HC7:=Lib.hid c7
   have HCK:=Lib.hid cK
   have HCW:=Lib.hid cW
   have d0:=c0 wr (Keeps.refl _ _)
   have d1:=c1 wr (Keeps.refl _ _)
   have d2:=c2 wr (Keeps.refl _ _)
   have d3:=c3 wr (Keeps.refl _ _)
   have d4:=c4 wr (Keeps.refl _ _)
   have d5:=c5 wr (Keeps.refl _ _)
   have d6:=c6 wr (Keeps.refl _ _)
   have d7:=c7 wr (Keeps.refl _ _)
   have R6:∀ wx,Calls Tryz.prog 116 #[.int .u32 re,.int .u64 6] wx fun e w'=>e=.returned (.int .u32 (rotl re 26))∧wx=w':=fun wx=>turn_any re 6 26 be (by omega) (by omega) (by omega)
   have R11:∀ wx,Calls Tryz.prog 116 #[.int .u32 re,.int .u64 11] wx fun e w'=>e=.returned (.int .u32 (rotl re 21))∧wx=w':=fun wx=>turn_any re 11 21 be (by omega) (by omega) (by omega)
   have R25:∀ wx,Calls Tryz.prog 116 #[.int .u32 re,.int .u64 25] wx fun e w'=>e=.returned (.int .u32 (rotl re 7))∧wx=w':=fun wx=>turn_any re 25 7 be (by omega) (by omega) (by omega)
   have R2:∀ wx,Calls Tryz.prog 116 #[.int .u32 ra,.int .u64 2] wx fun e w'=>e=.returned (.int .u32 (rotl ra 30))∧wx=w':=fun wx=>turn_any ra 2 30 ba (by omega) (by omega) (by omega)
   have R13:∀ wx,Calls Tryz.prog 116 #[.int .u32 ra,.int .u64 13] wx fun e w'=>e=.returned (.int .u32 (rotl ra 19))∧wx=w':=fun wx=>turn_any ra 13 19 ba (by omega) (by omega) (by omega)
   have R22:∀ wx,Calls Tryz.prog 116 #[.int .u32 ra,.int .u64 22] wx fun e w'=>e=.returned (.int .u32 (rotl ra 10))∧wx=w':=fun wx=>turn_any ra 22 10 ba (by omega) (by omega) (by omega)
   obtain ⟨A1,hA1⟩:∃ a,a=rotl re 26:=⟨_,rfl⟩
   obtain ⟨A2,hA2⟩:∃ a,a=rotl re 21:=⟨_,rfl⟩
   obtain ⟨A3,hA3⟩:∃ a,a=rotl re 7:=⟨_,rfl⟩
   obtain ⟨B1,hB1⟩:∃ a,a=rotl ra 30:=⟨_,rfl⟩
   obtain ⟨B2,hB2⟩:∃ a,a=rotl ra 19:=⟨_,rfl⟩
   obtain ⟨B3,hB3⟩:∃ a,a=rotl ra 10:=⟨_,rfl⟩
   rw [← hA1] at R6
   rw [← hA2] at R11
   rw [← hA3] at R25
   rw [← hB1] at R2
   rw [← hB2] at R13
   rw [← hB3] at R22
   have ba1:A1 < 4294967296:=by rw [hA1];exact rotl_lt _ _ be
   have ba2:A2 < 4294967296:=by rw [hA2];exact rotl_lt _ _ be
   have ba3:A3 < 4294967296:=by rw [hA3];exact rotl_lt _ _ be
   have bb1:B1 < 4294967296:=by rw [hB1];exact rotl_lt _ _ ba
   have bb2:B2 < 4294967296:=by rw [hB2];exact rotl_lt _ _ ba
   have bb3:B3 < 4294967296:=by rw [hB3];exact rotl_lt _ _ ba
   obtain ⟨X1,hX1⟩:∃ a,a=A1 ^^^ A2:=⟨_,rfl⟩
   have bX1:X1 < 4294967296:=by rw [hX1];exact xor_lt32 ba1 ba2
   obtain ⟨X2,hX2⟩:∃ a,a=X1 ^^^ A3:=⟨_,rfl⟩
   have e1:=bits_xor_u32 ba1 ba2
   have e2:=bits_xor_u32 bX1 ba3
   rw [← hX1] at e1
   rw [← hX2] at e2
   obtain ⟨F1,hF1⟩:∃ a,a=re &&& rf:=⟨_,rfl⟩
   have bF1:F1 < 4294967296:=by rw [hF1];exact and_lt32 bf
   have en:=not_u32 be
   obtain ⟨NE,hNE⟩:∃ a,a=4294967296 - (re+1):=⟨_,rfl⟩
   have bNE:NE < 4294967296:=by omega
   rw [← hNE] at en
   obtain ⟨F2,hF2⟩:∃ a,a=NE &&& rg:=⟨_,rfl⟩
   have bF2:F2 < 4294967296:=by rw [hF2];exact and_lt32 bg
   obtain ⟨F3,hF3⟩:∃ a,a=F1 ^^^ F2:=⟨_,rfl⟩
   have e3:=bits_and_u32 be bf
   have e4:=bits_and_u32 bNE bg
   have e5:=bits_xor_u32 bF1 bF2
   rw [← hF1] at e3
   rw [← hF2] at e4
   rw [← hF3] at e5
   obtain ⟨H1,hH1⟩:∃ a,a=(rh+X2) % 4294967296:=⟨_,rfl⟩
   obtain ⟨H2,hH2⟩:∃ a,a=(H1+F3) % 4294967296:=⟨_,rfl⟩
   obtain ⟨H3,hH3⟩:∃ a,a=(H2+K) % 4294967296:=⟨_,rfl⟩
   obtain ⟨ON,hON⟩:∃ a,a=(H3+Wk) % 4294967296:=⟨_,rfl⟩
   have u1:IntKind.u32.wrap ((rh:Int)+(X2:Int))=(H1:Int):=by rw [wrap_u32'];omega
   have u2:IntKind.u32.wrap ((H1:Int)+(F3:Int))=(H2:Int):=by rw [wrap_u32'];omega
   have u3:IntKind.u32.wrap ((H2:Int)+(K:Int))=(H3:Int):=by rw [wrap_u32'];omega
   have u4:IntKind.u32.wrap ((H3:Int)+(Wk:Int))=(ON:Int):=by rw [wrap_u32'];omega
   obtain ⟨Y1,hY1⟩:∃ a,a=B1 ^^^ B2:=⟨_,rfl⟩
   have bY1:Y1 < 4294967296:=by rw [hY1];exact xor_lt32 bb1 bb2
   obtain ⟨Y2,hY2⟩:∃ a,a=Y1 ^^^ B3:=⟨_,rfl⟩
   have e6:=bits_xor_u32 bb1 bb2
   have e7:=bits_xor_u32 bY1 bb3
   rw [← hY1] at e6
   rw [← hY2] at e7
   obtain ⟨M1,hM1⟩:∃ a,a=ra &&& rb:=⟨_,rfl⟩
   obtain ⟨M2,hM2⟩:∃ a,a=ra &&& rc:=⟨_,rfl⟩
   have bM1:M1 < 4294967296:=by rw [hM1];exact and_lt32 bb
   have bM2:M2 < 4294967296:=by rw [hM2];exact and_lt32 bc
   obtain ⟨M3,hM3⟩:∃ a,a=M1 ^^^ M2:=⟨_,rfl⟩
   have bM3:M3 < 4294967296:=by rw [hM3];exact xor_lt32 bM1 bM2
   obtain ⟨M4,hM4⟩:∃ a,a=rb &&& rc:=⟨_,rfl⟩
   have bM4:M4 < 4294967296:=by rw [hM4];exact and_lt32 bc
   obtain ⟨M5,hM5⟩:∃ a,a=M3 ^^^ M4:=⟨_,rfl⟩
   have e8:=bits_and_u32 ba bb
   have e9:=bits_and_u32 ba bc
   have e10:=bits_xor_u32 bM1 bM2
   have e11:=bits_and_u32 bb bc
   have e12:=bits_xor_u32 bM3 bM4
   rw [← hM1] at e8
   rw [← hM2] at e9
   rw [← hM3] at e10
   rw [← hM4] at e11
   rw [← hM5] at e12
   obtain ⟨TW,hTW⟩:∃ a,a=(ON+Y2) % 4294967296:=⟨_,rfl⟩
   obtain ⟨ND,hND⟩:∃ a,a=(rd+ON) % 4294967296:=⟨_,rfl⟩
   obtain ⟨NA,hNA⟩:∃ a,a=(TW+M5) % 4294967296:=⟨_,rfl⟩
   have m1:((ON:Int)+(Y2:Int)) % 4294967296=(TW:Int):=by omega
   have m2:((rd:Int)+(ON:Int)) % 4294967296=(ND:Int):=by omega
   have m3:((TW:Int)+(M5:Int)) % 4294967296=(NA:Int):=by omega
   have hnew:(⟨NA,ra,rb,rc,ND,re,rf,rg⟩:S8)=shaRun s S (k+1):=by
    have hC:F3=shaCh re rf rg:=by rw [hF3,hF1,hF2,hNE];exact ch_bits be bg
    have hJ:M5=shaMaj ra rb rc:=by rw [hM5,hM3,hM1,hM2,hM4];exact maj_bits ra rb rc
    have hO:ON=shaOne ⟨ra,rb,rc,rd,re,rf,rg,rh⟩ K Wk:=by
     unfold shaOne shaB1
     dsimp only
     rw [← hA1,← hA2,← hA3,← hX1,← hX2,← hC]
     omega
    have hT:(ON+shaTwo ⟨ra,rb,rc,rd,re,rf,rg,rh⟩) % 4294967296=NA:=by
     unfold shaTwo shaB0
     dsimp only
     rw [← hB1,← hB2,← hB3,← hY1,← hY2,← hJ]
     omega
    rw [shaRun,← HR.out,← hK,← hWk,shaRound,← hO,hT,← hND]
   have HNEW:=Lib.hid hnew
   have HR6:=Lib.hid R6
   have HR11:=Lib.hid R11
   have HR25:=Lib.hid R25
   have HR2:=Lib.hid R2
   have HR13:=Lib.hid R13
   have HR22:=Lib.hid R22
   have HSN:=Lib.hid (fun (wx:World) (hk:Keeps [] wr wx)=>run_store_wds (x:=[NA,ra,rb,rc,ND,re,rf,rg]) (HWS.out.keeps hk (by simp)) rfl rfl size_8u32)
   have HWN:=Lib.hid (fun (wx:World) (hk:Keeps [] wr wx)=>wds_store (x:=[NA,ra,rb,rc,ND,re,rf,rg]) (HWS.out.keeps hk (by simp)) rfl)
   clear R6 R11 R25 R2 R13 R22 c0 c1 c2 c3 c4 c5 c6 c7 cK cW hK hWk bK bW hA1 hA2 hA3 hB1 hB2 hB3 ba1 ba2 ba3 bb1 bb2 bb3 hX1 bX1 hX2 hF1 bF1 hNE bNE hF2 bF2 hF3 hH1 hH2 hH3 hON hY1 bY1 hY2 hM1 hM2 bM1 bM2 hM3 bM3 hM4 bM4 hM5 hTW hND hNA hnew ba bb bc bd be bf bg bh
   go_upto_region 5 with fail
   refine wp_region_held_drew (S:=(fun wx=>wx.cell? ⟨g5,4,none⟩=some (.int .u32 re))) (by kernel_rfl) ?_ (fun hHeld=>?_)
   ·exact HC4.out wr.drew (Keeps.refl _ _).drew
   refine tk 0 ?_
   refine tk 1 ?_
   refine hc_take (i:=2) (v:=.int .u32 A1) rfl (by kernel_rfl) (by kernel_rfl) (by kernel_rfl) (fun _ _ _ h=>h) (yieldsC_call (by rfl) 116 _ _ rfl Tryz.f116 Tryz.func116 (by kernel_rfl) rfl #[.int .u32 re,.int .u64 6] (by simp [Act.eval]) (fun w0 _=>HR6.out w0)) (by assumption) ?_
   try simp only [zA,zB,zC,zD,zE,zF,zG,zH]
   refine tk 3 ?_
   refine tk 4 ?_
   refine hc_take (i:=5) (v:=.int .u32 A2) rfl (by kernel_rfl) (by kernel_rfl) (by kernel_rfl) (fun _ _ _ h=>h) (yieldsC_call (by rfl) 116 _ _ rfl Tryz.f116 Tryz.func116 (by kernel_rfl) rfl #[.int .u32 re,.int .u64 11] (by simp [Act.eval]) (fun w0 _=>HR11.out w0)) (by assumption) ?_
   try simp only [zA,zB,zC,zD,zE,zF,zG,zH]
   refine tk 6 ?_
   refine tk 7 ?_
   refine tk 8 ?_
   refine hc_take (i:=9) (v:=.int .u32 A3) rfl (by kernel_rfl) (by kernel_rfl) (by kernel_rfl) (fun _ _ _ h=>h) (yieldsC_call (by rfl) 116 _ _ rfl Tryz.f116 Tryz.func116 (by kernel_rfl) rfl #[.int .u32 re,.int .u64 25] (by simp [Act.eval]) (fun w0 _=>HR25.out w0)) (by assumption) ?_
   try simp only [zA,zB,zC,zD,zE,zF,zG,zH]
   refine tk 10 ?_
   refine tk 11 ?_
   refine wpAnyH_done (by kernel_rfl) ?_ _
   clear hHeld
   go_upto_region 7 with fail
   refine wp_region_held_drew (S:=(fun wx=>(wx.cell? ⟨g5,7,none⟩=some (.int .u32 rh)∧wx.cell? ⟨3,k,none⟩=some (.int .u32 K))∧wx.cell? ⟨g3,k,none⟩=some (.int .u32 Wk))) (by kernel_rfl) ?_ (fun hHeld=>?_)
   ·exact ⟨⟨HC7.out _ (Keeps.refl _ _).drew.drew,HCK.out _ (Keeps.refl _ _).drew.drew⟩,HCW.out _ (Keeps.refl _ _).drew.drew⟩
   refine tk 0 ?_
   refine tk 1 ?_
   refine tk 2 ?_
   refine tk 3 ?_
   refine tk 4 ?_
   refine tk 5 ?_
   refine tk 6 ?_
   refine tk 7 ?_
   refine tk 8 ?_
   refine tk 9 ?_
   refine tk 10 ?_
   refine tk 11 ?_
   refine tk 12 ?_
   refine tk 13 ?_
   refine tk 14 ?_
   refine wpAnyH_done (by kernel_rfl) ?_ _
   clear hHeld
   go_upto_region 8 with fail
   refine wp_region_held_drew (S:=(fun wx=>wx.cell? ⟨g5,0,none⟩=some (.int .u32 ra))) (by kernel_rfl) ?_ (fun hHeld=>?_)
   ·exact HC0.out _ (Keeps.refl _ _).drew.drew.drew
   refine tk 0 ?_
   refine tk 1 ?_
   refine hc_take (i:=2) (v:=.int .u32 B1) rfl (by kernel_rfl) (by kernel_rfl) (by kernel_rfl) (fun _ _ _ h=>h) (yieldsC_call (by rfl) 116 _ _ rfl Tryz.f116 Tryz.func116 (by kernel_rfl) rfl #[.int .u32 ra,.int .u64 2] (by simp [Act.eval]) (fun w0 _=>HR2.out w0)) (by assumption) ?_
   try simp only [zA,zB,zC,zD,zE,zF,zG,zH]
   refine tk 3 ?_
   refine tk 4 ?_
   refine hc_take (i:=5) (v:=.int .u32 B2) rfl (by kernel_rfl) (by kernel_rfl) (by kernel_rfl) (fun _ _ _ h=>h) (yieldsC_call (by rfl) 116 _ _ rfl Tryz.f116 Tryz.func116 (by kernel_rfl) rfl #[.int .u32 ra,.int .u64 13] (by simp [Act.eval]) (fun w0 _=>HR13.out w0)) (by assumption) ?_
   try simp only [zA,zB,zC,zD,zE,zF,zG,zH]
   refine tk 6 ?_
   refine tk 7 ?_
   refine tk 8 ?_
   refine hc_take (i:=9) (v:=.int .u32 B3) rfl (by kernel_rfl) (by kernel_rfl) (by kernel_rfl) (fun _ _ _ h=>h) (yieldsC_call (by rfl) 116 _ _ rfl Tryz.f116 Tryz.func116 (by kernel_rfl) rfl #[.int .u32 ra,.int .u64 22] (by simp [Act.eval]) (fun w0 _=>HR22.out w0)) (by assumption) ?_
   try simp only [zA,zB,zC,zD,zE,zF,zG,zH]
   refine tk 10 ?_
   refine tk 11 ?_
   refine wpAnyH_done (by kernel_rfl) ?_ _
   clear hHeld
   go_wp2_with (first | (refine wl_store rfl 154 (.tmp 5) (.tmp 104) rfl ?_;refine ⟨_,HSN.out _ (Keeps.refl _ _).drew.drew.drew,?_⟩;try simp only [zA,zB,zC,zD,zE,zF,zG,zH]))
   go_roundw
   case rel =>
    refine ⟨k+1,_,by omega,by go_num,HNEW.out,HWN.out _ (Keeps.refl _ _).drew.drew.drew,HKR.out.drew.drew.drew.setCells (.inl (by simp)) _ _⟩
   case measure=>simp [intOf];omega
  ·have k1:¬ (k:Int) < 64:=by omega
   obtain rfl:k=64:=by omega
   obtain ⟨wz,rfl⟩:∃ x:World,x=wr:=⟨_,rfl⟩
   clear k1 k0 hlt hk
   go_wp2_with fail
   go_loopw [12] (fun iv wr=>∃ k:Nat,k≤8∧iv=.int .i64 k∧Wds wr g5 154 (addW r.words s.words k)∧Keeps [g5] wd wr) (fun iv _=>8 - (intOf iv).toNat)
   case atStart=>exact ⟨0,Nat.zero_le _,rfl,by rw [addW_none];exact HWS.out,HKR.out⟩
   case round =>
    obtain ⟨k,hk,rfl,hws,hkr⟩:=hrel
    have HW2:=Lib.hid hws
    have HK2:=Lib.hid hkr
    clear hws hkr
    have k0:(0:Int)≤(k:Int):=by omega
    by_cases hlt:k < 8
    ·have k1:(k:Int) < 8:=by omega
     obtain ⟨x,hx⟩:∃ x,x=r.words.getD k 0:=⟨_,rfl⟩
     obtain ⟨y,hy⟩:∃ y,y=s.words.getD k 0:=⟨_,rfl⟩
     have e1:(addW r.words s.words k).getD k 0=x:=by rw [addW_getD _ _ _ _ hlt,if_neg (by omega),hx]
     have c5:∀ wx,Keeps [] wr wx→wx.cell? ⟨g5,k,none⟩=some (.int .u32 x):=fun wx h=>by rw [← e1];exact (HW2.out.keeps h (by simp)).cell k (by rw [addW_length];exact hlt)
     have c2:∀ wx,Keeps [] wr wx→wx.cell? ⟨g2,k,none⟩=some (.int .u32 y):=fun wx h=>by
      rw [hy,← HWSS.out]
      exact ((HZ2.out.keeps HK2.out (by have:=HG5.out;have:=HE.out;have:=HG2.out;simp;omega)).keeps h (by simp)).cell k (by rw [HWL.out];exact hlt)
     have f5:=HW2.out.free k
     obtain ⟨N,hN⟩:∃ a,a=(x+y) % 4294967296:=⟨_,rfl⟩
     have u1:IntKind.u32.wrap ((x:Int)+(y:Int))=(N:Int):=by rw [wrap_u32'];omega
     have d5:=c5 wr (Keeps.refl _ _)
     have HC5:=Lib.hid c5
     have HC2:=Lib.hid c2
     have HNX:=Lib.hid (And.intro hN (And.intro hx hy))
     clear hx hy e1 c5 c2 hN
     go_upto_region 14 with fail
     refine rl_start (fun wx=>wx.cell? ⟨g5,k,none⟩=some (.int .u32 x)∧wx.cell? ⟨g2,k,none⟩=some (.int .u32 y)) 9 (by kernel_rfl) ?_ (fun hHeld=>?_)
     ·exact ⟨HC5.out _ (Keeps.refl _ _).drew,HC2.out _ (Keeps.refl _ _).drew⟩
     refine rk 0 ?_
     refine rk 1 ?_
     refine rk 2 ?_
     refine rk 3 ?_
     refine rk 4 ?_
     refine rk 5 ?_
     refine rk 6 ?_
     refine rk 7 ?_
     refine rk 8 ?_
     refine rl_last (by kernel_rfl) (by kernel_rfl) rfl (fun K hK=>?_)
     go_simp
     refine hK.out _ _ ?_
     clear hK K
     try simp only [zA,zB,zC,zD,zE,zF,zG,zH]
     clear hHeld
     go_wp2_with fail
     go_roundw
     case rel =>
      (repeat apply Exists.intro)
      refine ⟨⟨k+1,by omega,by go_num,?_,(HK2.out.setCell (p:=⟨g5,k,none⟩) (.inl (by simp)) _).drew⟩,rfl⟩
      have h:=HW2.out.set k N
      have e:(addW r.words s.words k).set k N=addW r.words s.words (k+1):=by rw [addW_succ _ _ _ hlt,HNX.out.1,HNX.out.2.1,HNX.out.2.2]
      rw [e] at h
      exact h
     case measure=>simp [intOf];omega
    ·have k1:¬ (k:Int) < 8:=by omega
     obtain rfl:k=8:=by omega
     obtain ⟨RW,hRW⟩:∃ RW,RW=addW r.words s.words 8:=⟨_,rfl⟩
     have hRl:RW.length=8:=by rw [hRW,addW_length]
     have HRW:=Lib.hid hRW
     have hws:=HW2.out
     rw [← hRW] at hws
     have h4:=HZ4.out.keeps HK2.out (by simp;have:=HG5.out;have:=HE.out;omega)
     have HRG:=Lib.hid hws.range
     have HST2:=Lib.hid (run_store_wds h4 HZL.out hRl size_8u32)
     have HWF:=Lib.hid (wds_store (x:=RW) h4 (by rw [HZL.out,hRl]))
     have HSLL:=Lib.hid (show (Tryz.prog.info? 154).map (·.size)=some (RW.map W32).length by rw [List.length_map,hRl];exact size_8u32)
     clear hRW hRl hws h4 k1 k0 hlt hk
     go_wp2_with (first | (refine wpList_load_mid rfl 154 (.tmp 5) rfl g5 0 (by rfl) (RW.map W32) _ HRG.out Tryz.underlying154 rfl HSLL.out ?_;try simp only [zA,zB,zC,zD,zE,zF,zG,zH]) | (refine wl_store rfl 154 (.tmp 4) (.tmp 118) rfl ?_;refine ⟨_,HST2.out,?_⟩;try simp only [zA,zB,zC,zD,zE,zF,zG,zH]))
     refine bodyPost_ret (v:=.agg (RW.map W32).toArray) (results_row (by rfl) (by rfl) HWF.out.range Tryz.underlying154 rfl HSLL.out) rfl ⟨?_,?_⟩
     ·rw [HRW.out,addW_all,HR.out,HS.out]
      rfl
     ·exact (((HK.out.trans (G:=[g5]) HK2.out (fun j hj=>.inr (by simp at hj;have:=HG5.out;have:=HE.out;omega))).mono (by simp)).setCells (.inr (by have:=HE.out;omega)) _ _)
open Go.RowKit
theorem size_key:(Tryz.prog.info? 60).map (·.size)=some 32:=by kernel_rfl
theorem size_key_of {l:List UInt8} (h:l.length=32):(Tryz.prog.info? 60).map (·.size)=some (l.map B).length:=by rw [size_key,List.length_map,h]
set_option maxRecDepth 100000 in
theorem len8_any {w:World} (x:Int) (h0:0≤x) (h1:x≤255) :
  Calls Tryz.prog 81 #[.int .u8 x] w fun e w'=>e=.returned (.int .i64 (Lib.bitLen x.toNat))∧w'=w:=by
 rw [← Lib.len8_int x h0 h1]
 go_enter Tryz.func81,Tryz.ntmps81
 go_wp2
 go_ret
 refine ⟨?_,rfl⟩
 show Ending.returned (.int .i64 (wrap64 (Lib.len8 x)))=_
 unfold wrap64
 rfl
set_option maxRecDepth 100000 in
theorem lead8_any {w:World} (x:Nat) (hx:x < 256) {m:Nat} (hm:m=Lib.bitLen x) (h8:m≤8) :
  Calls Tryz.prog 54 #[.int .u8 x] w fun e w'=>e=.returned (.int .i64 (8 - m:Nat))∧w=w':=by
 have CL:=len8_any (w:=w) x (by omega) (by omega)
 rw [Int.toNat_natCast,← hm] at CL
 have CL':=Lib.hid CL
 clear CL hm
 go_enter Tryz.func54,Tryz.ntmps54
 go_wp2_with fail
 refine CL'.out.mono ?_
 rintro e w' ⟨rfl,rfl⟩
 go_wp2_with fail
 go_ret
 refine ⟨?_,rfl⟩
 show Ending.returned (.int .i64 (8 - (m:Int)))=_
 rw [show (8 - (m:Int))=((8 - m:Nat):Int) by omega]
theorem and7_i64 (i:Nat) (h:i < 4294967296):bits .and .i64 (i:Int) 7=((i % 8:Nat):Int):=by
 have hx:i &&& 7=i % 8:=Nat.and_two_pow_sub_one_eq_mod i 3
 show IntKind.i64.wrap ((BitVec.ofInt 64 (i:Int) &&& BitVec.ofInt 64 (7:Int)).toNat:Int)=_
 have e1:(BitVec.ofInt 64 (i:Int)).toNat=i:=by rw [BitVec.ofInt_natCast,BitVec.toNat_ofNat];exact Nat.mod_eq_of_lt (by omega)
 have e2:(BitVec.ofInt 64 (7:Int)).toNat=7:=by decide
 rw [BitVec.toNat_and,e1,e2,hx]
 simp only [IntKind.wrap,IntKind.bits,IntKind.signed]
 simp
 omega
theorem and1_i64 (i:Nat) (h:i < 4294967296):bits .and .i64 (i:Int) 1=((i % 2:Nat):Int):=by
 have hx:i &&& 1=i % 2:=Nat.and_two_pow_sub_one_eq_mod i 1
 show IntKind.i64.wrap ((BitVec.ofInt 64 (i:Int) &&& BitVec.ofInt 64 (1:Int)).toNat:Int)=_
 have e1:(BitVec.ofInt 64 (i:Int)).toNat=i:=by rw [BitVec.ofInt_natCast,BitVec.toNat_ofNat];exact Nat.mod_eq_of_lt (by omega)
 have e2:(BitVec.ofInt 64 (1:Int)).toNat=1:=by decide
 rw [BitVec.toNat_and,e1,e2,hx]
 simp only [IntKind.wrap,IntKind.bits,IntKind.signed]
 simp
 omega
set_option maxRecDepth 100000 in
set_option maxHeartbeats 800000 in
theorem baBit_any {w:World} {k:List UInt8} (hk:k.length=32) (i:Nat) (hi:i < 256) :
  Calls Tryz.prog 53 #[.agg (k.map B).toArray,.int .i64 i] w fun e w'=>e=.returned (.int .i64 (bitK k i))∧Keeps [] w w':=by
 obtain ⟨q,hq⟩:∃ q,q=w.heap.size:=⟨_,rfl⟩
 obtain ⟨w1,hw1⟩:∃ x,x=w.alloc (.cells (k.map B).toArray 60 (0,0)):=⟨_,rfl⟩
 have k1:Keeps [] w w1:=by rw [hw1];exact (Keeps.refl _ _).alloc _
 have b1:Blk w1 q 60 k:=by rw [hw1];exact heap_new_at hq
 obtain ⟨x,hx⟩:∃ x,x=k[i / 8]'(by omega):=⟨_,rfl⟩
 have c1:=b1.cell (i / 8) (by omega)
 rw [← hx] at c1
 unfold B at c1
 have e1:((i:Int) / 8).toNat=i / 8:=by omega
 have b0:(0:Int)≤(i:Int) / 8:=by omega
 have b2:(i:Int) / 8 < ((32:Nat):Int):=by omega
 have e7:=and7_i64 i (by omega)
 have HW1:=Lib.hid hw1
 have HQ:=Lib.hid hq
 have HK1:=Lib.hid k1
 have HX:=Lib.hid hx
 clear hw1 hq k1 b1 hx
 go_enter Tryz.func53,Tryz.ntmps53
 go_upto_region 1 with fail
 rw [← HW1.out,← HQ.out]
 go_upto_region 3 with fail
 go_wp2_with fail
 go_ret
 refine ⟨?_,HK1.out⟩
 have hxl:=x.toNat_lt
 have hd:x.toNat / 2 ^ (7 - i % 8)≤x.toNat:=Nat.div_le_self _ _
 have e3:((x.toNat:Int) / 2 ^ (7 - i % 8))=((x.toNat / 2 ^ (7 - i % 8):Nat):Int):=by simp only [Int.natCast_ediv,Int.natCast_pow];rfl
 have e4:wrap64 ((x.toNat / 2 ^ (7 - i % 8):Nat):Int)=((x.toNat / 2 ^ (7 - i % 8):Nat):Int):=by
  clear e3
  generalize x.toNat / 2 ^ (7 - i % 8)=N at hd ⊢
  unfold wrap64
  omega
 show Ending.returned (.int .i64 (bits BinOp.and IntKind.i64 (wrap64 ((x.toNat:Int) / 2 ^ (7 - i % 8))) 1))=_
 rw [e3,e4,and1_i64 _ (by omega)]
 unfold bitK
 rw [List.getD_eq_getElem?_getD,List.getElem?_eq_getElem (by omega),HX.out]
 rfl
theorem u8_bits_xor {x y:Nat} (hx:x < 256) (hy:y < 256):bits .xor .u8 (x:Int) (y:Int)=((x ^^^ y:Nat):Int):=by
 have hz:x ^^^ y < 2 ^ 8:=Nat.xor_lt_two_pow (by omega) (by omega)
 show IntKind.u8.wrap ((BitVec.ofInt 8 (x:Int) ^^^ BitVec.ofInt 8 (y:Int)).toNat:Int)=_
 have e1:(BitVec.ofInt 8 (x:Int)).toNat=x:=by rw [BitVec.ofInt_natCast,BitVec.toNat_ofNat];exact Nat.mod_eq_of_lt (by omega)
 have e2:(BitVec.ofInt 8 (y:Int)).toNat=y:=by rw [BitVec.ofInt_natCast,BitVec.toNat_ofNat];exact Nat.mod_eq_of_lt (by omega)
 rw [BitVec.toNat_xor,e1,e2]
 simp only [IntKind.wrap,IntKind.bits,IntKind.signed]
 simp
 omega
set_option maxRecDepth 100000 in
set_option maxHeartbeats 1600000 in
theorem baCommon_any {w:World} {a b:List UInt8} (ha:a.length=32) (hb:b.length=32) :
  Calls Tryz.prog 27 #[.agg (a.map B).toArray,.agg (b.map B).toArray] w fun e w'=>e=.returned (.int .i64 (commonK a b))∧Keeps [] w w':=by
 obtain ⟨C,hC⟩:∃ C,C=commonK a b:=⟨_,rfl⟩
 rw [← hC]
 obtain ⟨q,hq⟩:∃ q,q=w.heap.size:=⟨_,rfl⟩
 obtain ⟨q3,hq3⟩:∃ q,q=w.heap.size+1:=⟨_,rfl⟩
 obtain ⟨w1,hw1⟩:∃ x,x=(w.alloc (.cells (a.map B).toArray 60 (0,0))).alloc (.cells (b.map B).toArray 60 (0,0)):=⟨_,rfl⟩
 have k1:Keeps [] w w1:=by rw [hw1];exact ((Keeps.refl _ _).alloc _).alloc _
 have b1:Blk w1 q 60 a:=by rw [hw1];exact (heap_old_at (by simp;omega)).trans (heap_new_at hq)
 have b2:Blk w1 q3 60 b:=by rw [hw1];exact heap_new_at (by simp;exact hq3)
 have HQE:=Lib.hid (fun w=>run_equalIn_bytes w 9998 Tryz.underlying60 ha hb)
 have HW1:=Lib.hid hw1
 have HQ:=Lib.hid hq
 have HQ3:=Lib.hid hq3
 have HK1:=Lib.hid k1
 have HB1:=Lib.hid b1
 have HB2:=Lib.hid b2
 have HSA:=Lib.hid (size_key_of ha)
 have HSB:=Lib.hid (size_key_of hb)
 have HL:=Lib.hid (And.intro ha hb)
 have HC:=Lib.hid hC
 clear hw1 hq hq3 k1 b1 b2 ha hb hC
 by_cases he:a=b
 ·have hqe:=HQE.out
  rw [beq_iff_eq.2 he] at hqe
  have hc:C=256:=by rw [HC.out];exact (commonK_eq HL.out.1 HL.out.2).2 he
  have HCC:=Lib.hid hc
  clear hc he
  go_enter Tryz.func27,Tryz.ntmps27
  go_upto_region 1 with fail
  rw [← HW1.out,← HQ3.out,← HQ.out]
  go_wp2_with (first | (refine wpList_load_mid rfl 60 (.tmp 2) rfl q 0 (by rfl) (a.map B) _ (rangeAt_all HB1.out) Tryz.underlying60 rfl HSA.out ?_;try simp only [zA,zB,zC,zD,zE,zF,zG,zH]) | (refine wpList_load_mid rfl 60 (.tmp 3) rfl q3 0 (by rfl) (b.map B) _ (rangeAt_all HB2.out) Tryz.underlying60 rfl HSB.out ?_;try simp only [zA,zB,zC,zD,zE,zF,zG,zH]))
  go_ret
  exact ⟨by rw [HCC.out];rfl,HK1.out⟩
 ·have hqe:=HQE.out
  rw [beq_eq_false_iff_ne.2 he] at hqe
  have HE:=Lib.hid he
  clear he
  go_enter Tryz.func27,Tryz.ntmps27
  go_upto_region 1 with fail
  rw [← HW1.out,← HQ3.out,← HQ.out]
  go_wp2_with (first | (refine wpList_load_mid rfl 60 (.tmp 2) rfl q 0 (by rfl) (a.map B) _ (rangeAt_all HB1.out) Tryz.underlying60 rfl HSA.out ?_;try simp only [zA,zB,zC,zD,zE,zF,zG,zH]) | (refine wpList_load_mid rfl 60 (.tmp 3) rfl q3 0 (by rfl) (b.map B) _ (rangeAt_all HB2.out) Tryz.underlying60 rfl HSB.out ?_;try simp only [zA,zB,zC,zD,zE,zF,zG,zH]))
  clear hqe
  go_loopw [10] (fun iv wr=>∃ j:Nat,j≤32∧iv=.int .i64 j∧(∀ i,i < j→a.getD i 0=b.getD i 0)∧Keeps [] w1 wr) (fun iv _=>32 - (intOf iv).toNat)
  case atStart=>exact ⟨0,by omega,rfl,fun i hi=>by omega,Keeps.refl _ _⟩
  case round =>
   obtain ⟨j,hj,rfl,hsame,hkr⟩:=hrel
   by_cases hlt:j < 32
   ·obtain ⟨x,hx⟩:∃ x,x=a[j]'(by rw [HL.out.1];exact hlt):=⟨_,rfl⟩
    obtain ⟨y,hy⟩:∃ y,y=b[j]'(by rw [HL.out.2];exact hlt):=⟨_,rfl⟩
    have c1:=(HB1.out.keeps hkr (by simp)).cell j (by rw [HL.out.1];exact hlt)
    have c2:=(HB2.out.keeps hkr (by simp)).cell j (by rw [HL.out.2];exact hlt)
    rw [← hx] at c1
    rw [← hy] at c2
    unfold B at c1 c2
    have hxa:a.getD j 0=x:=by rw [List.getD_eq_getElem?_getD,List.getElem?_eq_getElem (by rw [HL.out.1];exact hlt),hx];rfl
    have hyb:b.getD j 0=y:=by rw [List.getD_eq_getElem?_getD,List.getElem?_eq_getElem (by rw [HL.out.2];exact hlt),hy];rfl
    have hxor:=u8_bits_xor x.toNat_lt y.toNat_lt
    obtain ⟨z,hz⟩:∃ z:Nat,z=x.toNat ^^^ y.toNat:=⟨_,rfl⟩
    rw [← hz] at hxor
    have hz8:z < 256:=by rw [hz];exact Nat.xor_lt_two_pow (n:=8) x.toNat_lt y.toNat_lt
    have b0:(0:Int)≤(j:Int):=by omega
    have b3:(j:Int) < ((32:Nat):Int):=by omega
    have HSAME:=Lib.hid hsame
    have HKR:=Lib.hid hkr
    have HXY:=Lib.hid (And.intro hxa hyb)
    have HZ:=Lib.hid hz
    clear hsame hkr hx hy hxa hyb hz
    by_cases hxy:x=y
    ·have hz0:z=0:=by rw [HZ.out,hxy,Nat.xor_self]
     subst hz0
     have HE2:=Lib.hid hxy
     clear hxy
     go_upto_region 6 with fail
     refine wp_region_held_drew (S:=(fun w'=>w'.cell? ⟨q,j,none⟩=some (.int .u8 x.toNat)∧w'.cell? ⟨q3,j,none⟩=some (.int .u8 y.toNat))) (by kernel_rfl) ?_ (fun hHeld=>?_)
     ·exact ⟨c1,c2⟩
     refine tk 0 ?_
     refine tk 1 ?_
     refine tk 2 ?_
     refine tk 3 ?_
     refine tk 4 ?_
     refine tk 5 ?_
     refine tk 6 ?_
     refine tk 7 ?_
     refine wpAnyH_done (by kernel_rfl) ?_ _
     clear hHeld
     go_wp2_with fail
     go_roundw
     case rel =>
      refine ⟨j+1,by omega,by go_num,fun i hi=>?_,HKR.out.drew⟩
      by_cases e:i=j
      ·subst e;rw [HXY.out.1,HXY.out.2,HE2.out]
      ·exact HSAME.out i (by omega)
     case measure=>simp [intOf];omega
    ·have hzne:¬ z=0:=fun e=>hxy (by
      apply UInt8.toNat_inj.1
      apply Nat.eq_of_testBit_eq
      intro i
      have:=congrArg (fun n=>n.testBit i) (HZ.out.symm.trans e)
      simpa [Nat.testBit_xor] using this)
     obtain ⟨m,hm⟩:∃ m,m=Lib.bitLen z:=⟨_,rfl⟩
     have hm8:m≤8:=by rw [hm];exact Lib.bitLen_le8 ⟨z,hz8⟩
     have hCv:C=8 * j+(8 - m):=by
      rw [HC.out,common_byte hlt HSAME.out (by rw [HXY.out.1,HXY.out.2];exact hxy),HXY.out.1,HXY.out.2,hm,HZ.out]
     have HLZ:=Lib.hid (fun wx:World=>lead8_any (w:=wx) z hz8 hm hm8)
     have HCV:=Lib.hid hCv
     clear hxy hm hCv
     go_upto_region 6 with fail
     refine wp_region_held_drew (S:=(fun w'=>w'.cell? ⟨q,j,none⟩=some (.int .u8 x.toNat)∧w'.cell? ⟨q3,j,none⟩=some (.int .u8 y.toNat))) (by kernel_rfl) ?_ (fun hHeld=>?_)
     ·exact ⟨c1,c2⟩
     refine tk 0 ?_
     refine tk 1 ?_
     refine tk 2 ?_
     refine tk 3 ?_
     refine tk 4 ?_
     refine tk 5 ?_
     refine tk 6 ?_
     refine tk 7 ?_
     refine wpAnyH_done (by kernel_rfl) ?_ _
     clear hHeld
     go_wp2_with (first | (go_at_call 54;refine (HLZ.out _).mono ?_;rintro e w2 ⟨rfl,rfl⟩))
     go_ret
     refine ⟨?_,(HK1.out.trans (G:=[]) HKR.out (by simp)).drew⟩
     rw [HCV.out]
     show Ending.returned (.int .i64 (8 * (j:Int)+((8 - m:Nat):Int)))=_
     rw [show (8 * (j:Int)+((8 - m:Nat):Int))=((8 * j+(8 - m):Nat):Int) by omega]
   ·have e:j=32:=by omega
    subst e
    exact absurd (List.ext_getElem (by rw [HL.out.1,HL.out.2]) fun i h1 h2=>by
     have:=hsame i (by rw [HL.out.1] at h1;exact h1)
     rw [List.getD_eq_getElem?_getD,List.getD_eq_getElem?_getD,List.getElem?_eq_getElem h1,List.getElem?_eq_getElem h2] at this
     exact this) HE.out
end Go.Proofs.YtakaocenbempmaaGreatDoor
