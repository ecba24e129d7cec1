/-
  Lemmas of a claim, bundle X: XR9D XPrI XR9E XR9F.
-/
import Derived.Test.YtakaocenbempmaaGreatDoorPfW
import Derived.Test.YtakaocenbempmaaGreatDoorPfU
import Derived.Test.YtakaocenbempmaaGreatDoorPfE
set_option linter.unusedVariables false
set_option linter.unusedSimpArgs false
namespace Go.Proofs.YtakaocenbempmaaGreatDoor
open Go.RowKit
set_option maxRecDepth 100000 in
set_option maxHeartbeats 1600000 in
theorem r9Number_any {w:World} {g o N c:Nat} {l:List UInt8} (hr:w.rangeAt g o (l.map B)) (hg:g < w.heap.size) (hN:l.length=N) (hNm:N≤1099511627776) (i:Nat) (hi:i+4≤N) :
  Calls Tryz.prog 105 #[.slice (some ⟨g,o,none⟩) N c,.int .i64 i] w fun e w'=>e=.returned (.int .i64 (le4 l i:Nat))∧Keeps [] w w':=by
 obtain ⟨R,hR⟩:∃ R,R=le4 l i:=⟨_,rfl⟩
 rw [← hR]
 obtain ⟨a,ha⟩:∃ a,a=(l.getD i 0).toNat:=⟨_,rfl⟩
 obtain ⟨b,hb⟩:∃ b,b=(l.getD (i+1) 0).toNat:=⟨_,rfl⟩
 obtain ⟨c',hc⟩:∃ c,c=(l.getD (i+2) 0).toNat:=⟨_,rfl⟩
 obtain ⟨d,hd⟩:∃ d,d=(l.getD (i+3) 0).toNat:=⟨_,rfl⟩
 have hRv:R=a+256 * b+65536 * c'+16777216 * d:=by rw [hR,ha,hb,hc,hd];rfl
 have ba:a < 256:=by rw [ha];exact UInt8.toNat_lt _
 have bb:b < 256:=by rw [hb];exact UInt8.toNat_lt _
 have bc:c' < 256:=by rw [hc];exact UInt8.toNat_lt _
 have bd:d < 256:=by rw [hd];exact UInt8.toNat_lt _
 have hcell:∀ wx,Keeps [] w wx→g < w.heap.size→wx.cell? ⟨g,o+i,none⟩=some (.int .u8 a)∧wx.cell? ⟨g,o+(i+1),none⟩=some (.int .u8 b)∧wx.cell? ⟨g,o+(i+2),none⟩=some (.int .u8 c')∧wx.cell? ⟨g,o+(i+3),none⟩=some (.int .u8 d):=fun wx h hg=>by
  have hk:=h.block g hg (by simp)
  rw [ha,hb,hc,hd]
  have f:∀ j,j < N→wx.cell? ⟨g,o+j,none⟩=some (.int .u8 ((l.getD j 0).toNat:Nat)):=fun j hj=>range_byte hr hk (by rw [List.getD_eq_getElem?_getD,List.getElem?_eq_getElem (by omega)];rfl)
  exact ⟨f i (by omega),f (i+1) (by omega),f (i+2) (by omega),f (i+3) (by omega)⟩
 have i0:(0:Int)≤(i:Int):=by omega
 have w1:IntKind.i64.wrap ((i:Int)+1)=(i:Int)+1:=IntWalk.i64_in _ (by omega)
 have w2:IntKind.i64.wrap ((i:Int)+2)=(i:Int)+2:=IntWalk.i64_in _ (by omega)
 have w3:IntKind.i64.wrap ((i:Int)+3)=(i:Int)+3:=IntWalk.i64_in _ (by omega)
 have t1:((i:Int)+1).toNat=i+1:=by omega
 have t2:((i:Int)+2).toNat=i+2:=by omega
 have t3:((i:Int)+3).toNat=i+3:=by omega
 have b1:(0:Int)≤(i:Int)+1:=by omega
 have b2:(0:Int)≤(i:Int)+2:=by omega
 have b3:(0:Int)≤(i:Int)+3:=by omega
 have d0:(i:Int) < (N:Int):=by omega
 have d1:(i:Int)+1 < (N:Int):=by omega
 have d2:(i:Int)+2 < (N:Int):=by omega
 have d3:(i:Int)+3 < (N:Int):=by omega
 have ua:IntKind.i64.wrap (a:Int)=(a:Int):=IntWalk.i64_in _ (by omega)
 have ub:IntKind.i64.wrap (b:Int)=(b:Int):=IntWalk.i64_in _ (by omega)
 have uc:IntKind.i64.wrap (c':Int)=(c':Int):=IntWalk.i64_in _ (by omega)
 have ud:IntKind.i64.wrap (d:Int)=(d:Int):=IntWalk.i64_in _ (by omega)
 obtain ⟨B1,hB1⟩:∃ x,x=256 * b:=⟨_,rfl⟩
 obtain ⟨B2,hB2⟩:∃ x,x=65536 * c':=⟨_,rfl⟩
 obtain ⟨B3,hB3⟩:∃ x,x=16777216 * d:=⟨_,rfl⟩
 obtain ⟨S1,hS1⟩:∃ x,x=a+B1:=⟨_,rfl⟩
 obtain ⟨S2,hS2⟩:∃ x,x=S1+B2:=⟨_,rfl⟩
 have v1:IntKind.i64.wrap (256 * (b:Int))=(B1:Int):=by rw [IntWalk.i64_in _ (by omega)];omega
 have v2:IntKind.i64.wrap (65536 * (c':Int))=(B2:Int):=by rw [IntWalk.i64_in _ (by omega)];omega
 have v3:IntKind.i64.wrap (16777216 * (d:Int))=(B3:Int):=by rw [IntWalk.i64_in _ (by omega)];omega
 have x1:IntKind.i64.wrap ((a:Int)+(B1:Int))=(S1:Int):=by rw [IntWalk.i64_in _ (by omega)];omega
 have x2:IntKind.i64.wrap ((S1:Int)+(B2:Int))=(S2:Int):=by rw [IntWalk.i64_in _ (by omega)];omega
 have x3:IntKind.i64.wrap ((S2:Int)+(B3:Int))=(R:Int):=by rw [IntWalk.i64_in _ (by omega)];omega
 have HC:=Lib.hid (fun wx h=>hcell wx h hg)
 clear hR ha hb hc hd hRv ba bb bc bd hcell hr hN hB1 hB2 hB3 hS1 hS2 hg
 go_enter Tryz.func105,Tryz.ntmps105
 go_upto_region 1 with fail
 refine wp_region_held_drew (S:=(fun w'=>w'.cell? ⟨g,o+i,none⟩=some (.int .u8 a)∧w'.cell? ⟨g,o+(i+1),none⟩=some (.int .u8 b)∧w'.cell? ⟨g,o+(i+2),none⟩=some (.int .u8 c')∧w'.cell? ⟨g,o+(i+3),none⟩=some (.int .u8 d))) (by kernel_rfl) ?_ (fun hHeld=>?_)
 ·exact HC.out w.drew (Keeps.refl _ _).drew
 refine tk 0 ?_
 refine tk 1 ?_
 refine tk 2 ?_
 refine tk 3 ?_
 refine tk 4 ?_
 refine tk 5 ?_
 refine tk 6 ?_
 refine tk 7 ?_
 refine tk 8 ?_
 refine tk 9 ?_
 refine tk 10 ?_
 refine tk 11 ?_
 refine tk 12 ?_
 refine tk 13 ?_
 refine tk 14 ?_
 refine tk 15 ?_
 refine tk 16 ?_
 refine tk 17 ?_
 refine tk 18 ?_
 refine tk 19 ?_
 refine tk 20 ?_
 refine tk 21 ?_
 refine tk 22 ?_
 refine tk 23 ?_
 refine tk 24 ?_
 refine tk 25 ?_
 refine tk 26 ?_
 refine tk 27 ?_
 refine tk 28 ?_
 refine tk 29 ?_
 refine wpAnyH_done (by kernel_rfl) ?_ _
 clear hHeld
 go_wp2_with fail
 go_ret
 exact ⟨rfl,(Keeps.refl _ _).drew⟩
set_option maxRecDepth 100000 in
theorem run_build_dig0 (w:World):(Instr.build 88 #[]).run Tryz.prog w=.ok (.agg (z32.map B).toArray) w:=by kernel_rfl
set_option maxRecDepth 100000 in
set_option maxHeartbeats 3200000 in
theorem r9Child_any {w:World} {p c:Nat} {s:List UInt8} (hs:s.length=32) :
  Calls Tryz.prog 117 #[.int .i64 p,.int .i64 c,.agg (s.map B).toArray] w fun e w'=>e=.returned (.bool (childOk p c s))∧Keeps [] w w':=by
 obtain ⟨bb,hbb⟩:∃ b,b=childOk p c s:=⟨_,rfl⟩
 rw [← hbb]
 obtain ⟨Z,hZ⟩:∃ Z,Z=z32:=⟨_,rfl⟩
 have hZl:Z.length=32:=by rw [hZ];rfl
 obtain ⟨q,hq⟩:∃ q,q=w.heap.size:=⟨_,rfl⟩
 obtain ⟨w1,hw1⟩:∃ x,x=w.alloc (.cells (s.map B).toArray 88 (0,0)):=⟨_,rfl⟩
 have k1:Keeps [] w w1:=by rw [hw1];exact (Keeps.refl _ _).alloc _
 have b1:Blk w1 q 88 s:=by rw [hw1];exact heap_new_at hq
 have hbl:=run_build_dig0
 rw [← hZ] at hbl
 have hqx:=fun w=>run_equalIn_bytes w 9998 Tryz.underlying88 hs hZl
 have HBL:=Lib.hid hbl
 have HR:=Lib.hid (rangeAt_all b1)
 have HSD:=Lib.hid (dg_size_of hs)
 have HW1:=Lib.hid hw1
 have HQ:=Lib.hid hq
 have HK1:=Lib.hid k1
 have HB:=Lib.hid hbb
 have HZ:=Lib.hid hZ
 clear hw1 hq k1 hZ hbb b1 hbl hZl hs
 by_cases h0:p=0
 ·have hp0:(p:Int)=0:=by omega
  by_cases h1:c=0
  ·have hc0:(c:Int)=0:=by omega
   obtain ⟨e,he⟩:∃ e,e=(s == Z):=⟨_,rfl⟩
   rw [← he] at hqx
   have HX:=Lib.hid (show bb=e by rw [HB.out,he,HZ.out];unfold childOk;rw [if_pos h0,h1];simp)
   clear he h0 h1
   go_enter Tryz.func117,Tryz.ntmps117
   go_upto_region 1 with fail
   rw [← HW1.out,← HQ.out]
   go_wp2_with (first | (refine Go.BigFrame.wpList_want (by rfl) fun K hK=>wp_load_mid 88 (.tmp 5) rfl q 0 (by rfl) (s.map B) _ HR.out Tryz.underlying88 rfl HSD.out (hK _ _ ?_);try simp only [zA,zB,zC,zD,zE,zF,zG,zH]) | (refine Go.BigFrame.wpList_want (by rfl) fun K hK=>wp_build 88 #[] #[] rfl (by simp) ⟨_,_,HBL.out _,hK _ _ ?_⟩;try simp only [zA,zB,zC,zD,zE,zF,zG,zH]))
   go_ret
   exact ⟨by rw [HX.out];rfl,HK1.out⟩
  ·have hc0:¬ (c:Int)=0:=by omega
   have HX:=Lib.hid (show bb=false by rw [HB.out];unfold childOk;rw [if_pos h0];simp [h1])
   clear h0 h1 hqx
   go_enter Tryz.func117,Tryz.ntmps117
   go_upto_region 1 with fail
   rw [← HW1.out,← HQ.out]
   go_wp2_with fail
   go_ret
   exact ⟨by rw [HX.out];rfl,HK1.out⟩
 ·have hp0:¬ (p:Int)=0:=by omega
  have HV:=Lib.hid (show bb=(decide (2≤p) && decide (p < 4096) && decide (0 < c) && decide (c≤4096)) by rw [HB.out];unfold childOk;rw [if_neg h0])
  clear h0 hqx
  by_cases h1:2≤p
  rotate_left 1
  ·have i1:¬ (2:Int)≤(p:Int):=by omega
   have HX:=Lib.hid (show bb=false by rw [HV.out];simp [h1])
   clear h1
   go_enter Tryz.func117,Tryz.ntmps117
   go_upto_region 1 with fail
   rw [← HW1.out,← HQ.out]
   go_wp2_with fail
   go_ret
   exact ⟨by rw [HX.out];rfl,HK1.out⟩
  have i1:(2:Int)≤(p:Int):=by omega
  by_cases h2:p < 4096
  rotate_left 1
  ·have i2:¬ (p:Int) < 4096:=by omega
   have HX:=Lib.hid (show bb=false by rw [HV.out];simp [h2])
   clear h1 h2
   go_enter Tryz.func117,Tryz.ntmps117
   go_upto_region 1 with fail
   rw [← HW1.out,← HQ.out]
   go_wp2_with fail
   go_ret
   exact ⟨by rw [HX.out];rfl,HK1.out⟩
  have i2:(p:Int) < 4096:=by omega
  by_cases h3:0 < c
  rotate_left 1
  ·have i3:¬ 0 < (c:Int):=by omega
   have HX:=Lib.hid (show bb=false by rw [HV.out];simp [h3])
   clear h1 h2 h3
   go_enter Tryz.func117,Tryz.ntmps117
   go_upto_region 1 with fail
   rw [← HW1.out,← HQ.out]
   go_wp2_with fail
   go_ret
   exact ⟨by rw [HX.out];rfl,HK1.out⟩
  have i3:0 < (c:Int):=by omega
  by_cases h4:c≤4096
  ·have i4:(c:Int)≤4096:=by omega
   have HX:=Lib.hid (show bb=true by rw [HV.out];simp [h1,h2,h3,h4])
   clear h1 h2 h3 h4
   go_enter Tryz.func117,Tryz.ntmps117
   go_upto_region 1 with fail
   rw [← HW1.out,← HQ.out]
   go_wp2_with fail
   go_ret
   exact ⟨by rw [HX.out];rfl,HK1.out⟩
  ·have i4:¬ (c:Int)≤4096:=by omega
   have HX:=Lib.hid (show bb=false by rw [HV.out];simp [h4])
   clear h1 h2 h3 h4
   go_enter Tryz.func117,Tryz.ntmps117
   go_upto_region 1 with fail
   rw [← HW1.out,← HQ.out]
   go_wp2_with fail
   go_ret
   exact ⟨by rw [HX.out];rfl,HK1.out⟩
open Go.RowKit
theorem node_parts {w:World} {q:Nat} {n:Nde} {vv:Value} (hok:n.ok) (h:w.heap[q]?=some (.cells (nodeC n vv).toArray 90 (0,0))) :
  (w.cell? ⟨q,0,none⟩=some (.int .i64 n.kind)∧w.cell? ⟨q,1,none⟩=some (.int .i64 n.left)∧w.cell? ⟨q,2,none⟩=some (.int .i64 n.right)∧w.cell? ⟨q,3,none⟩=some (.int .i64 n.lc)∧w.cell? ⟨q,4,none⟩=some (.int .i64 n.rc)∧w.cell? ⟨q,101,none⟩=some vv) ∧
   w.rangeAt q 5 (n.ls.map B)∧w.rangeAt q 37 (n.rs.map B)∧w.rangeAt q 69 (n.key.map B)∧w.rangeAt q 0 (nodeC n vv):=by
 obtain ⟨h1,h2,h3⟩:=hok
 have c:∀ (j:Nat) (u:Value),(nodeC n vv)[j]?=some u→w.cell? ⟨q,j,none⟩=some u:=fun j u hj=>by
  rw [cell_of_row w q j _ _ _ h]
  simpa using hj
 have p1:nodeC n vv=[Value.int .i64 n.kind,.int .i64 n.left,.int .i64 n.right,.int .i64 n.lc,.int .i64 n.rc]++n.ls.map B++(n.rs.map B++n.key.map B++[vv]):=by simp [nodeC]
 have p2:nodeC n vv=([Value.int .i64 n.kind,.int .i64 n.left,.int .i64 n.right,.int .i64 n.lc,.int .i64 n.rc]++n.ls.map B)++n.rs.map B++(n.key.map B++[vv]):=by simp [nodeC]
 have p3:nodeC n vv=([Value.int .i64 n.kind,.int .i64 n.left,.int .i64 n.right,.int .i64 n.lc,.int .i64 n.rc]++n.ls.map B++n.rs.map B)++n.key.map B++[vv]:=by simp [nodeC]
 have l2:([Value.int .i64 n.kind,.int .i64 n.left,.int .i64 n.right,.int .i64 n.lc,.int .i64 n.rc]++n.ls.map B).length=37:=by simp [h1]
 have l3:([Value.int .i64 n.kind,.int .i64 n.left,.int .i64 n.right,.int .i64 n.lc,.int .i64 n.rc]++n.ls.map B++n.rs.map B).length=69:=by simp [h1,h2]
 have r1:=rangeAt_part (by rw [← p1];exact h)
 have r2:=rangeAt_part (by rw [← p2];exact h)
 have r3:=rangeAt_part (by rw [← p3];exact h)
 rw [l2] at r2
 rw [l3] at r3
 refine ⟨⟨c 0 _ rfl,c 1 _ rfl,c 2 _ rfl,c 3 _ rfl,c 4 _ rfl,c 101 _ ?_⟩,r1,r2,r3,rangeAt_all h⟩
 rw [p3,List.getElem?_append_right (by simp [h1,h2,h3])]
 simp [h1,h2,h3]
def nodeAtL (e:Ent) (depth:Nat) (stated:Int) (key:List UInt8):Option Nde :=
 match decodeL e.kind e.load with
 | none=>none
 | some nd =>
  if nd.kind=1 then (if commonK nd.key key < depth then none else if 0≤stated∧stated≠1 then none else some nd)
  else (if depth=256 then none else if 0≤stated∧stated≠nd.lc+nd.rc then none else some nd)
theorem decodeL_cases {kind:Int} {l:List UInt8} {nd:Nde} (h:decodeL kind l=some nd) :
  (∃ k v,nd=leafN k v∧k.length=32∧v.length≤128)∨∃ lp lc ls rp rc rs,nd=branchN lp lc ls rp rc rs∧branchOk lp lc ls rp rc rs=true∧ls.length=32∧rs.length=32∧lc+rc≤4096∧lp < 4294967296∧rp < 4294967296:=by
 unfold decodeL at h
 split at h
 ·rename_i h1
  split at h
  ·cases h
   exact .inl ⟨_,_,rfl,by rw [List.length_take];omega,by rw [List.length_drop];omega⟩
  ·cases h
 ·split at h
  ·rename_i h1
   split at h
   ·rename_i hb
    cases h
    refine .inr ⟨_,_,_,_,_,_,rfl,hb,by rw [List.length_take,List.length_drop];omega,by rw [List.length_take,List.length_drop];omega,?_,le4_lt _ _,le4_lt _ _⟩
    unfold branchOk at hb
    simp only [Bool.and_eq_true,decide_eq_true_eq] at hb
    exact hb.2
   ·cases h
  ·cases h
set_option maxRecDepth 100000 in
set_option maxHeartbeats 1600000 in
theorem nodeAt_none {w:World} {s b bf c bm:Nat} {S:St} {sv:Value} {d:D} {F:List Nat} {e:Ent} (h:StoreIn w s b S bf c bm sv) (hd:DiskAt w b d F) (hl:liveE d S.f=0) (he:e∈S.C.kept) (hll:e.load.length≤246) (h3:decodeL e.kind e.load=none)
  (depth:Nat) (stated:Int) (key:List UInt8) :
  Calls Tryz.prog 52 #[.pointer (some ⟨s,0,none⟩),.int .i64 e.key,.int .i64 depth,.int .i64 stated,.agg (key.map B).toArray] w fun r w'=>r=.returned (.tuple #[.agg (nodeC nd0 (.slice none 0 0)).toArray,.int .i64 4]) ∧
   StoreIn w' s b { S with C:={ S.C with hits:=wrap64 (S.C.hits+1) } } bf c bm sv∧Keeps [c] w w':=by
 obtain ⟨Z,hZ,hZi,hZ1,hZb⟩:∃ Z:List Value,Z.length=102∧(Tryz.prog.info? 90).map (fun i=>(i.zero,i.size,i.bytes))=some (some (.agg Z.toArray),102,160)∧(∀ v∈Z,v.oneCell'=true)∧Z=nodeC nd0 (.slice none 0 0):=⟨_,nodeC_length nd0_ok _,info_node,nodeC_ones,rfl⟩
 have hbld:∀ w,(Instr.build 90 #[]).run Tryz.prog w=.ok (.agg Z.toArray) w:=fun w=>by rw [hZb];exact run_build_node0 w
 have hdec:∀ (w:World) a cp,BytesAt w (.slice a e.load.length cp) e.load→Calls Tryz.prog 80 #[.int .i64 e.kind,.slice a e.load.length cp] w fun r w'=>r=.returned (.tuple #[.agg Z.toArray,.int .i64 90])∧Keeps [] w w':=fun w a cp hv=>by rw [hZb];exact decode_none hv h3
 rw [← hZb]
 obtain ⟨q9,hq9⟩:∃ q,q=w.heap.size:=⟨_,rfl⟩
 obtain ⟨q,hq0⟩:∃ q,q=(w.alloc (.cells (key.map B).toArray 60 (0,0))).heap.size:=⟨_,rfl⟩
 have hq:q=w.heap.size+1:=by rw [hq0];simp
 obtain ⟨w1,hw1⟩:∃ x,x=(w.alloc (.cells (key.map B).toArray 60 (0,0))).alloc (.cells Z.toArray 90 (0,0)):=⟨_,rfl⟩
 have k1:Keeps [] w w1:=by rw [hw1];exact ((Keeps.refl _ _).alloc _).alloc _
 have b1:w1.heap[q]?=some (.cells Z.toArray 90 (0,0)):=by rw [hw1];exact heap_new_at (by simp;omega)
 have b9:Blk w1 q9 60 key:=by rw [hw1];exact (heap_old_at (by simp;omega)).trans (heap_new_at hq9)
 have HLO:=Lib.hid (sLoad_staged (h.keeps k1 (by simp)) (hd.keeps k1 (by simp)) hl he hll)
 have HC:=Lib.hid h.c_mem
 have HSLT:=Lib.hid h.lt
 have HBL:=Lib.hid hbld
 have HZI:=Lib.hid hZi
 have HW1:=Lib.hid hw1
 have HQ:=Lib.hid hq
 have HQ0:=Lib.hid hq0
 have HQ9:=Lib.hid hq9
 have HK1:=Lib.hid k1
 have HB1:=Lib.hid b1
 have HB9:=Lib.hid b9
 have HZ:=Lib.hid (And.intro hZ hZ1)
 have HSZ:=Lib.hid (show (Tryz.prog.info? 90).map (·.size)=some Z.length by rw [hZ];exact size_node)
 have HDEC:=Lib.hid hdec
 clear hbld hZi hw1 hq hq0 hq9 k1 b1 b9 hZ hZ1 hZb h hd hl he hll h3 hdec
 go_enter Tryz.func52,Tryz.ntmps52
 go_upto_region 1 with (first | (refine wl_alloc rfl 90 rfl ?_;refine ⟨_,_,run_alloc _ HZI.out,?_⟩;try simp only [zA,zB,zC,zD,zE,zF,zG,zH]))
 try simp only [Value.cells]
 rw [← HW1.out,← HQ0.out,← HQ9.out]
 go_upto_region 4 with (first | (go_at_call 79;refine HLO.out.mono ?_;rintro r w2 ⟨a,cp,rfl,hown,hnew,hs2,hk2⟩))
 have hcq:c≠q∧c≠q9:=by have:=HC.out;have:=HQ.out;have:=HQ9.out;omega
 have HB2:=Lib.hid ((hk2.block q (lt_of_heap HB1.out) (by simp;omega)).trans HB1.out)
 have HB92:=Lib.hid (HB9.out.keeps hk2 (by simp;omega))
 have HS2:=Lib.hid hs2
 have HK2:=Lib.hid ((HK1.out.mono (G:=[c]) (by simp)).trans (G:=[c]) hk2 (fun j hj=>.inl hj))
 have HD2:=Lib.hid (HDEC.out w2 a cp (ownB_bytes hown))
 clear hown hnew hs2 hk2 hcq
 go_upto_region 6 with (first | (go_at_call 80;refine HD2.out.mono ?_;rintro r w3 ⟨rfl,hk3⟩) | (refine wl_alloc rfl 90 rfl ?_;refine ⟨_,_,run_alloc _ HZI.out,?_⟩;(try simp only [Value.cells]);try simp only [zA,zB,zC,zD,zE,zF,zG,zH]) | (refine wl_store rfl 90 (.tmp 15) (.tmp 31) rfl ?_;refine ⟨_,run_store_node (heap_new_at rfl) HZ.out.1 HZ.out.1 HZ.out.2,?_⟩;try simp only [zA,zB,zC,zD,zE,zF,zG,zH]))
 obtain ⟨w5,hw5⟩:∃ x,x=(w3.alloc (.cells Z.toArray 90 (0,0))).setCells w3.heap.size 0 Z:=⟨_,rfl⟩
 have k35:Keeps [] w3 w5:=by rw [hw5];exact ((Keeps.refl _ _).alloc _).setCells (.inr (Nat.le_refl _)) _ _
 have k25:Keeps [] w2 w5:=hk3.trans (G:=[]) k35 (by simp)
 have HB5:=Lib.hid ((k25.block q (lt_of_heap HB2.out) (by simp)).trans HB2.out)
 have HS5:=Lib.hid (HS2.out.keeps k25 (by simp))
 have HK5:=Lib.hid (HK2.out.trans (G:=[]) k25 (by simp))
 rw [← hw5]
 clear hk3 hw5 k35 k25 HS2 HK2 HB2
 go_wp2_with (first | (refine wl_build rfl 90 #[] #[] rfl (by simp [Act.eval]) ?_;refine ⟨_,_,HBL.out _,?_⟩;try simp only [zA,zB,zC,zD,zE,zF,zG,zH]) | (refine wl_store rfl 90 (.tmp 10) (.tmp 35) rfl ?_;refine ⟨_,run_store_node HB5.out HZ.out.1 HZ.out.1 HZ.out.2,?_⟩;try simp only [zA,zB,zC,zD,zE,zF,zG,zH]))
 have k6:Keeps [q] w5 (w5.setCells q 0 Z):=(Keeps.refl _ _).setCells (.inl (by simp)) _ _
 refine bodyPost_ret (results_row2 (cs:=Z) rfl rfl rfl (rangeAt_all (store_all HB5.out rfl)) Tryz.underlying90 rfl HSZ.out) rfl ⟨rfl,?_,?_⟩
 ·refine HS5.out.keeps k6 (fun k hk e=>?_)
  simp at e
  subst e
  have:=HSLT.out k hk
  have:=HQ.out
  omega
 ·exact HK5.out.setCells (.inr (by rw [HQ.out];omega)) _ _
set_option maxRecDepth 100000 in
set_option maxHeartbeats 3200000 in
theorem nodeAt_leaf_far {w:World} {s b bf c bm:Nat} {S:St} {sv:Value} {d:D} {F:List Nat} {e:Ent} {key kk val:List UInt8} (h:StoreIn w s b S bf c bm sv) (hd:DiskAt w b d F) (hl:liveE d S.f=0) (he:e∈S.C.kept) (hll:e.load.length≤246) (hnd:decodeL e.kind e.load=some (leafN kk val)) (hkl:key.length=32) (hkk:kk.length=32) (depth:Nat) (stated:Int) (hc:commonK kk key < depth) :
  Calls Tryz.prog 52 #[.pointer (some ⟨s,0,none⟩),.int .i64 e.key,.int .i64 depth,.int .i64 stated,.agg (key.map B).toArray] w fun r w'=>r=.returned (.tuple #[.agg (nodeC nd0 (.slice none 0 0)).toArray,.int .i64 4]) ∧
   StoreIn w' s b { S with C:={ S.C with hits:=wrap64 (S.C.hits+1) } } bf c bm sv∧Keeps [c] w w':=by
 obtain ⟨Z,hZ,hZi,hZ1,hZb⟩:∃ Z:List Value,Z.length=102∧(Tryz.prog.info? 90).map (fun i=>(i.zero,i.size,i.bytes))=some (some (.agg Z.toArray),102,160)∧(∀ v∈Z,v.oneCell'=true)∧Z=nodeC nd0 (.slice none 0 0):=⟨_,nodeC_length nd0_ok _,info_node,nodeC_ones,rfl⟩
 have hbld:∀ w,(Instr.build 90 #[]).run Tryz.prog w=.ok (.agg Z.toArray) w:=fun w=>by rw [hZb];exact run_build_node0 w
 rw [← hZb]
 obtain ⟨q9,hq9⟩:∃ q,q=w.heap.size:=⟨_,rfl⟩
 obtain ⟨q,hq0⟩:∃ q,q=(w.alloc (.cells (key.map B).toArray 60 (0,0))).heap.size:=⟨_,rfl⟩
 have hq:q=w.heap.size+1:=by rw [hq0];simp
 obtain ⟨w1,hw1⟩:∃ x,x=(w.alloc (.cells (key.map B).toArray 60 (0,0))).alloc (.cells Z.toArray 90 (0,0)):=⟨_,rfl⟩
 have k1:Keeps [] w w1:=by rw [hw1];exact ((Keeps.refl _ _).alloc _).alloc _
 have b1:w1.heap[q]?=some (.cells Z.toArray 90 (0,0)):=by rw [hw1];exact heap_new_at (by simp;omega)
 have b9:Blk w1 q9 60 key:=by rw [hw1];exact (heap_old_at (by simp;omega)).trans (heap_new_at hq9)
 have HLO:=Lib.hid (sLoad_staged (h.keeps k1 (by simp)) (hd.keeps k1 (by simp)) hl he hll)
 have HC:=Lib.hid h.c_mem
 have HSLT:=Lib.hid h.lt
 have HBL:=Lib.hid hbld
 have HZI:=Lib.hid hZi
 have HW1:=Lib.hid hw1
 have HQ:=Lib.hid hq
 have HQ0:=Lib.hid hq0
 have HQ9:=Lib.hid hq9
 have HK1:=Lib.hid k1
 have HB1:=Lib.hid b1
 have HB9:=Lib.hid b9
 have HZ:=Lib.hid (And.intro hZ hZ1)
 have HSZ:=Lib.hid (show (Tryz.prog.info? 90).map (·.size)=some Z.length by rw [hZ];exact size_node)
 have HND:=Lib.hid hnd
 have HOK:=Lib.hid (decodeL_ok hnd)
 have HCM:=Lib.hid (fun wx:World=>baCommon_any (w:=wx) hkk hkl)
 have HSK:=Lib.hid (size_key_of hkl)
 have HSKK:=Lib.hid (size_key_of hkk)
 obtain ⟨cm,hcm⟩:∃ cm,cm=commonK kk key:=⟨_,rfl⟩
 rw [← hcm] at hc HCM
 have hci:(cm:Int) < (depth:Int):=by omega
 clear hbld hZi hw1 hq hq0 hq9 k1 b1 b9 hZ hZ1 hZb h hd hl he hll hnd hkl hkk hcm hc
 go_enter Tryz.func52,Tryz.ntmps52
 go_upto_region 1 with (first | (refine wl_alloc rfl 90 rfl ?_;refine ⟨_,_,run_alloc _ HZI.out,?_⟩;try simp only [zA,zB,zC,zD,zE,zF,zG,zH]))
 try simp only [Value.cells]
 rw [← HW1.out,← HQ0.out,← HQ9.out]
 go_upto_region 4 with (first | (go_at_call 79;refine HLO.out.mono ?_;rintro r w2 ⟨a,cp,rfl,hown,hnew,hs2,hk2⟩))
 have hcq:c≠q∧c≠q9:=by have:=HC.out;have:=HQ.out;have:=HQ9.out;omega
 have HB2:=Lib.hid ((hk2.block q (lt_of_heap HB1.out) (by simp;omega)).trans HB1.out)
 have HB92:=Lib.hid (HB9.out.keeps hk2 (by simp;omega))
 have HS2:=Lib.hid hs2
 have HK2:=Lib.hid ((HK1.out.mono (G:=[c]) (by simp)).trans (G:=[c]) hk2 (fun j hj=>.inl hj))
 have HD2:=Lib.hid (decode_some (ownB_bytes hown) HND.out)
 clear hown hnew hs2 hk2 hcq
 go_upto_region 7 with (first | (go_at_call 80;refine HD2.out.mono ?_;rintro r w3 ⟨a3,c3,rfl,hO3,hn3,hk3⟩;obtain ⟨N,hN⟩:∃ N,N=nodeC (leafN kk val) (.slice a3 (leafN kk val).val.length c3):=⟨_,rfl⟩;rw [← hN];have HN:=Lib.hid (And.intro hN (And.intro (show N.length=102 by rw [hN];exact nodeC_length HOK.out _) (show ∀ v∈N,v.oneCell'=true by rw [hN];exact nodeC_ones)));have HO3:=Lib.hid (And.intro hO3 (And.intro hn3 hk3));clear hN hO3 hn3 hk3) | (refine wl_alloc rfl 90 rfl ?_;refine ⟨_,_,run_alloc _ HZI.out,?_⟩;(try simp only [Value.cells]);try simp only [zA,zB,zC,zD,zE,zF,zG,zH]) | (refine wl_store rfl 90 (.tmp 15) (.tmp 31) rfl ?_;refine ⟨_,run_store_node (heap_new_at rfl) HZ.out.1 HN.out.2.1 HN.out.2.2,?_⟩;try simp only [zA,zB,zC,zD,zE,zF,zG,zH]))
 obtain ⟨q15,hq15⟩:∃ q,q=w3.heap.size:=⟨_,rfl⟩
 obtain ⟨w5,hw5⟩:∃ x,x=(w3.alloc (.cells Z.toArray 90 (0,0))).setCells q15 0 N:=⟨_,rfl⟩
 have b15:w5.heap[q15]?=some (.cells N.toArray 90 (0,0)):=by rw [hw5];exact store_all (heap_new_at hq15) (by rw [HZ.out.1,HN.out.2.1])
 have k35:Keeps [] w3 w5:=by rw [hw5];exact ((Keeps.refl _ _).alloc _).setCells (.inr (by omega)) _ _
 have k25:Keeps [] w2 w5:=HO3.out.2.2.trans (G:=[]) k35 (by simp)
 have HB5:=Lib.hid ((k25.block q (lt_of_heap HB2.out) (by simp)).trans HB2.out)
 have HB95:=Lib.hid (HB92.out.keeps k25 (by simp))
 have HB15:=Lib.hid b15
 have HS5:=Lib.hid (HS2.out.keeps k25 (by simp))
 have HK5:=Lib.hid (HK2.out.trans (G:=[]) k25 (by simp))
 have HO5:=Lib.hid (show OwnB w5 (.slice a3 (leafN kk val).val.length c3) (leafN kk val).val from ownsRow_keep HO3.out.1 (fun k hk=>k35.block k (World.ownsRow.lt HO3.out.1 k hk).2 (by simp)))
 have HNB:=Lib.hid (show ∀ k,(Value.slice a3 (leafN kk val).val.length c3).ownBlock=some k→w.heap.size≤k∧k≠q from fun k hk=>⟨Nat.le_trans HK2.out.size (HO3.out.2.1 k hk),fun e=>by have:=HO3.out.2.1 k hk;have:=lt_of_heap HB2.out;omega⟩)
 have HNQ:=Lib.hid (show q < q15 by rw [hq15];exact Nat.lt_of_lt_of_le (lt_of_heap HB2.out) HO3.out.2.2.size)
 rw [← hq15]
 rw [← hw5]
 obtain ⟨⟨n0,n1,n2,n3,n4,n5⟩,_,_,hkey,_⟩:=node_parts HOK.out (show w5.heap[q15]?=some (.cells (nodeC (leafN kk val) (.slice a3 (leafN kk val).val.length c3)).toArray 90 (0,0)) by rw [b15,HN.out.1])
 have HKEY:=Lib.hid hkey
 clear hq15 hw5 b15 k35 k25 hkey HO3 HS2 HK2 HB2 HB92 HD2 n1 n2 n5
 have hk0:(leafN kk val).kind=1:=rfl
 rw [hk0] at n0
 have hl0:(leafN kk val).lc=0:=rfl
 have hr0:(leafN kk val).rc=0:=rfl
 rw [hl0] at n3
 rw [hr0] at n4
 clear hk0 hl0 hr0
 go_upto_region 11 with (first | (refine wpList_load_mid rfl 60 (.tmp 44) rfl q15 69 (by rfl) (kk.map B) _ HKEY.out Tryz.underlying60 rfl HSKK.out ?_;try simp only [zA,zB,zC,zD,zE,zF,zG,zH]) | (refine wpList_load_mid rfl 60 (.tmp 9) rfl q9 0 (by rfl) (key.map B) _ (rangeAt_all HB95.out) Tryz.underlying60 rfl HSK.out ?_;try simp only [zA,zB,zC,zD,zE,zF,zG,zH]) | (go_at_call 27;refine (HCM.out _).mono ?_;rintro r w6 ⟨rfl,hk6⟩))
 have HB6:=Lib.hid ((hk6.block q (lt_of_heap HB5.out) (by simp)).trans HB5.out)
 have HS6:=Lib.hid (HS5.out.keeps hk6 (by simp))
 have HK6:=Lib.hid (HK5.out.trans (G:=[]) hk6 (by simp))
 have HB16:=Lib.hid ((hk6.block q15 (lt_of_heap HB15.out) (by simp)).trans HB15.out)
 have HO6:=Lib.hid (show OwnB w6 (.slice a3 (leafN kk val).val.length c3) (leafN kk val).val from ownsRow_keep HO5.out (fun k hk=>hk6.block k (World.ownsRow.lt HO5.out k hk).2 (by simp)))
 clear hk6 n0 n3 n4
 go_wp2_with (first | (refine wl_build rfl 90 #[] #[] rfl (by simp [Act.eval]) ?_;refine ⟨_,_,HBL.out _,?_⟩;try simp only [zA,zB,zC,zD,zE,zF,zG,zH]) | (refine wl_store rfl 90 (.tmp 10) (.tmp 50) rfl ?_;refine ⟨_,run_store_node HB6.out HZ.out.1 HZ.out.1 HZ.out.2,?_⟩;try simp only [zA,zB,zC,zD,zE,zF,zG,zH]))
 have k6:Keeps [q] w6 (w6.setCells q 0 Z):=(Keeps.refl _ _).setCells (.inl (by simp)) _ _
 refine bodyPost_ret (results_row2 (cs:=Z) rfl rfl rfl (rangeAt_all (store_all HB6.out rfl)) Tryz.underlying90 rfl HSZ.out) rfl ⟨rfl,?_,?_⟩
 ·refine HS6.out.keeps k6 (fun k hk e=>?_)
  simp at e
  subst e
  have:=HSLT.out k hk
  have:=HQ.out
  omega
 ·exact HK6.out.setCells (.inr (by rw [HQ.out];omega)) _ _
set_option maxRecDepth 100000 in
set_option maxHeartbeats 3200000 in
theorem nodeAt_leaf_stated {w:World} {s b bf c bm:Nat} {S:St} {sv:Value} {d:D} {F:List Nat} {e:Ent} {key kk val:List UInt8} (h:StoreIn w s b S bf c bm sv) (hd:DiskAt w b d F) (hl:liveE d S.f=0) (he:e∈S.C.kept) (hll:e.load.length≤246) (hnd:decodeL e.kind e.load=some (leafN kk val)) (hkl:key.length=32) (hkk:kk.length=32) (depth:Nat) (stated:Int) (hc:¬ commonK kk key < depth) (hst:0≤stated∧stated≠1) :
  Calls Tryz.prog 52 #[.pointer (some ⟨s,0,none⟩),.int .i64 e.key,.int .i64 depth,.int .i64 stated,.agg (key.map B).toArray] w fun r w'=>r=.returned (.tuple #[.agg (nodeC nd0 (.slice none 0 0)).toArray,.int .i64 4]) ∧
   StoreIn w' s b { S with C:={ S.C with hits:=wrap64 (S.C.hits+1) } } bf c bm sv∧Keeps [c] w w':=by
 obtain ⟨Z,hZ,hZi,hZ1,hZb⟩:∃ Z:List Value,Z.length=102∧(Tryz.prog.info? 90).map (fun i=>(i.zero,i.size,i.bytes))=some (some (.agg Z.toArray),102,160)∧(∀ v∈Z,v.oneCell'=true)∧Z=nodeC nd0 (.slice none 0 0):=⟨_,nodeC_length nd0_ok _,info_node,nodeC_ones,rfl⟩
 have hbld:∀ w,(Instr.build 90 #[]).run Tryz.prog w=.ok (.agg Z.toArray) w:=fun w=>by rw [hZb];exact run_build_node0 w
 rw [← hZb]
 obtain ⟨q9,hq9⟩:∃ q,q=w.heap.size:=⟨_,rfl⟩
 obtain ⟨q,hq0⟩:∃ q,q=(w.alloc (.cells (key.map B).toArray 60 (0,0))).heap.size:=⟨_,rfl⟩
 have hq:q=w.heap.size+1:=by rw [hq0];simp
 obtain ⟨w1,hw1⟩:∃ x,x=(w.alloc (.cells (key.map B).toArray 60 (0,0))).alloc (.cells Z.toArray 90 (0,0)):=⟨_,rfl⟩
 have k1:Keeps [] w w1:=by rw [hw1];exact ((Keeps.refl _ _).alloc _).alloc _
 have b1:w1.heap[q]?=some (.cells Z.toArray 90 (0,0)):=by rw [hw1];exact heap_new_at (by simp;omega)
 have b9:Blk w1 q9 60 key:=by rw [hw1];exact (heap_old_at (by simp;omega)).trans (heap_new_at hq9)
 have HLO:=Lib.hid (sLoad_staged (h.keeps k1 (by simp)) (hd.keeps k1 (by simp)) hl he hll)
 have HC:=Lib.hid h.c_mem
 have HSLT:=Lib.hid h.lt
 have HBL:=Lib.hid hbld
 have HZI:=Lib.hid hZi
 have HW1:=Lib.hid hw1
 have HQ:=Lib.hid hq
 have HQ0:=Lib.hid hq0
 have HQ9:=Lib.hid hq9
 have HK1:=Lib.hid k1
 have HB1:=Lib.hid b1
 have HB9:=Lib.hid b9
 have HZ:=Lib.hid (And.intro hZ hZ1)
 have HSZ:=Lib.hid (show (Tryz.prog.info? 90).map (·.size)=some Z.length by rw [hZ];exact size_node)
 have HND:=Lib.hid hnd
 have HOK:=Lib.hid (decodeL_ok hnd)
 have HCM:=Lib.hid (fun wx:World=>baCommon_any (w:=wx) hkk hkl)
 have HSK:=Lib.hid (size_key_of hkl)
 have HSKK:=Lib.hid (size_key_of hkk)
 obtain ⟨cm,hcm⟩:∃ cm,cm=commonK kk key:=⟨_,rfl⟩
 rw [← hcm] at hc HCM
 have hci:¬ (cm:Int) < (depth:Int):=by omega
 obtain ⟨st0,hst1⟩:=hst
 have hst2:(stated != 1)=true:=by rw [bne_iff_ne];exact hst1
 clear hst1
 clear hbld hZi hw1 hq hq0 hq9 k1 b1 b9 hZ hZ1 hZb h hd hl he hll hnd hkl hkk hcm hc
 go_enter Tryz.func52,Tryz.ntmps52
 go_upto_region 1 with (first | (refine wl_alloc rfl 90 rfl ?_;refine ⟨_,_,run_alloc _ HZI.out,?_⟩;try simp only [zA,zB,zC,zD,zE,zF,zG,zH]))
 try simp only [Value.cells]
 rw [← HW1.out,← HQ0.out,← HQ9.out]
 go_upto_region 4 with (first | (go_at_call 79;refine HLO.out.mono ?_;rintro r w2 ⟨a,cp,rfl,hown,hnew,hs2,hk2⟩))
 have hcq:c≠q∧c≠q9:=by have:=HC.out;have:=HQ.out;have:=HQ9.out;omega
 have HB2:=Lib.hid ((hk2.block q (lt_of_heap HB1.out) (by simp;omega)).trans HB1.out)
 have HB92:=Lib.hid (HB9.out.keeps hk2 (by simp;omega))
 have HS2:=Lib.hid hs2
 have HK2:=Lib.hid ((HK1.out.mono (G:=[c]) (by simp)).trans (G:=[c]) hk2 (fun j hj=>.inl hj))
 have HD2:=Lib.hid (decode_some (ownB_bytes hown) HND.out)
 clear hown hnew hs2 hk2 hcq
 go_upto_region 7 with (first | (go_at_call 80;refine HD2.out.mono ?_;rintro r w3 ⟨a3,c3,rfl,hO3,hn3,hk3⟩;obtain ⟨N,hN⟩:∃ N,N=nodeC (leafN kk val) (.slice a3 (leafN kk val).val.length c3):=⟨_,rfl⟩;rw [← hN];have HN:=Lib.hid (And.intro hN (And.intro (show N.length=102 by rw [hN];exact nodeC_length HOK.out _) (show ∀ v∈N,v.oneCell'=true by rw [hN];exact nodeC_ones)));have HO3:=Lib.hid (And.intro hO3 (And.intro hn3 hk3));clear hN hO3 hn3 hk3) | (refine wl_alloc rfl 90 rfl ?_;refine ⟨_,_,run_alloc _ HZI.out,?_⟩;(try simp only [Value.cells]);try simp only [zA,zB,zC,zD,zE,zF,zG,zH]) | (refine wl_store rfl 90 (.tmp 15) (.tmp 31) rfl ?_;refine ⟨_,run_store_node (heap_new_at rfl) HZ.out.1 HN.out.2.1 HN.out.2.2,?_⟩;try simp only [zA,zB,zC,zD,zE,zF,zG,zH]))
 obtain ⟨q15,hq15⟩:∃ q,q=w3.heap.size:=⟨_,rfl⟩
 obtain ⟨w5,hw5⟩:∃ x,x=(w3.alloc (.cells Z.toArray 90 (0,0))).setCells q15 0 N:=⟨_,rfl⟩
 have b15:w5.heap[q15]?=some (.cells N.toArray 90 (0,0)):=by rw [hw5];exact store_all (heap_new_at hq15) (by rw [HZ.out.1,HN.out.2.1])
 have k35:Keeps [] w3 w5:=by rw [hw5];exact ((Keeps.refl _ _).alloc _).setCells (.inr (by omega)) _ _
 have k25:Keeps [] w2 w5:=HO3.out.2.2.trans (G:=[]) k35 (by simp)
 have HB5:=Lib.hid ((k25.block q (lt_of_heap HB2.out) (by simp)).trans HB2.out)
 have HB95:=Lib.hid (HB92.out.keeps k25 (by simp))
 have HB15:=Lib.hid b15
 have HS5:=Lib.hid (HS2.out.keeps k25 (by simp))
 have HK5:=Lib.hid (HK2.out.trans (G:=[]) k25 (by simp))
 have HO5:=Lib.hid (show OwnB w5 (.slice a3 (leafN kk val).val.length c3) (leafN kk val).val from ownsRow_keep HO3.out.1 (fun k hk=>k35.block k (World.ownsRow.lt HO3.out.1 k hk).2 (by simp)))
 have HNB:=Lib.hid (show ∀ k,(Value.slice a3 (leafN kk val).val.length c3).ownBlock=some k→w.heap.size≤k∧k≠q from fun k hk=>⟨Nat.le_trans HK2.out.size (HO3.out.2.1 k hk),fun e=>by have:=HO3.out.2.1 k hk;have:=lt_of_heap HB2.out;omega⟩)
 have HNQ:=Lib.hid (show q < q15 by rw [hq15];exact Nat.lt_of_lt_of_le (lt_of_heap HB2.out) HO3.out.2.2.size)
 rw [← hq15]
 rw [← hw5]
 obtain ⟨⟨n0,n1,n2,n3,n4,n5⟩,_,_,hkey,_⟩:=node_parts HOK.out (show w5.heap[q15]?=some (.cells (nodeC (leafN kk val) (.slice a3 (leafN kk val).val.length c3)).toArray 90 (0,0)) by rw [b15,HN.out.1])
 have HKEY:=Lib.hid hkey
 clear hq15 hw5 b15 k35 k25 hkey HO3 HS2 HK2 HB2 HB92 HD2 n1 n2 n5
 have hk0:(leafN kk val).kind=1:=rfl
 rw [hk0] at n0
 have hl0:(leafN kk val).lc=0:=rfl
 have hr0:(leafN kk val).rc=0:=rfl
 rw [hl0] at n3
 rw [hr0] at n4
 clear hk0 hl0 hr0
 go_upto_region 15 with (first | (refine wpList_load_mid rfl 60 (.tmp 44) rfl q15 69 (by rfl) (kk.map B) _ HKEY.out Tryz.underlying60 rfl HSKK.out ?_;try simp only [zA,zB,zC,zD,zE,zF,zG,zH]) | (refine wpList_load_mid rfl 60 (.tmp 9) rfl q9 0 (by rfl) (key.map B) _ (rangeAt_all HB95.out) Tryz.underlying60 rfl HSK.out ?_;try simp only [zA,zB,zC,zD,zE,zF,zG,zH]) | (go_at_call 27;refine (HCM.out _).mono ?_;rintro r w6 ⟨rfl,hk6⟩))
 have HB6:=Lib.hid ((hk6.block q (lt_of_heap HB5.out) (by simp)).trans HB5.out)
 have HS6:=Lib.hid (HS5.out.keeps hk6 (by simp))
 have HK6:=Lib.hid (HK5.out.trans (G:=[]) hk6 (by simp))
 have HB16:=Lib.hid ((hk6.block q15 (lt_of_heap HB15.out) (by simp)).trans HB15.out)
 have HO6:=Lib.hid (show OwnB w6 (.slice a3 (leafN kk val).val.length c3) (leafN kk val).val from ownsRow_keep HO5.out (fun k hk=>hk6.block k (World.ownsRow.lt HO5.out k hk).2 (by simp)))
 clear hk6 n0 n3 n4
 go_wp2_with (first | (refine wl_build rfl 90 #[] #[] rfl (by simp [Act.eval]) ?_;refine ⟨_,_,HBL.out _,?_⟩;try simp only [zA,zB,zC,zD,zE,zF,zG,zH]) | (refine wl_store rfl 90 (.tmp 10) (.tmp 61) rfl ?_;refine ⟨_,run_store_node HB6.out HZ.out.1 HZ.out.1 HZ.out.2,?_⟩;try simp only [zA,zB,zC,zD,zE,zF,zG,zH]))
 have k6:Keeps [q] w6 (w6.setCells q 0 Z):=(Keeps.refl _ _).setCells (.inl (by simp)) _ _
 refine bodyPost_ret (results_row2 (cs:=Z) rfl rfl rfl (rangeAt_all (store_all HB6.out rfl)) Tryz.underlying90 rfl HSZ.out) rfl ⟨rfl,?_,?_⟩
 ·refine HS6.out.keeps k6 (fun k hk e=>?_)
  simp at e
  subst e
  have:=HSLT.out k hk
  have:=HQ.out
  omega
 ·exact HK6.out.setCells (.inr (by rw [HQ.out];omega)) _ _
set_option maxRecDepth 100000 in
set_option maxHeartbeats 3200000 in
theorem nodeAt_leaf_okn {w:World} {s b bf c bm:Nat} {S:St} {sv:Value} {d:D} {F:List Nat} {e:Ent} {key kk val:List UInt8} (h:StoreIn w s b S bf c bm sv) (hd:DiskAt w b d F) (hl:liveE d S.f=0) (he:e∈S.C.kept) (hll:e.load.length≤246) (hnd:decodeL e.kind e.load=some (leafN kk val)) (hkl:key.length=32) (hkk:kk.length=32) (depth:Nat) (stated:Int) (hc:¬ commonK kk key < depth) (hsn:stated < 0) :
  Calls Tryz.prog 52 #[.pointer (some ⟨s,0,none⟩),.int .i64 e.key,.int .i64 depth,.int .i64 stated,.agg (key.map B).toArray] w fun r w'=>∃ a' c',r=.returned (.tuple #[.agg (nodeC (leafN kk val) (.slice a' (leafN kk val).val.length c')).toArray,.int .i64 0])∧OwnB w' (.slice a' (leafN kk val).val.length c') (leafN kk val).val∧(∀ k,(Value.slice a' (leafN kk val).val.length c').ownBlock=some k→w.heap.size≤k) ∧
   StoreIn w' s b { S with C:={ S.C with hits:=wrap64 (S.C.hits+1) } } bf c bm sv∧Keeps [c] w w':=by
 obtain ⟨Z,hZ,hZi,hZ1,hZb⟩:∃ Z:List Value,Z.length=102∧(Tryz.prog.info? 90).map (fun i=>(i.zero,i.size,i.bytes))=some (some (.agg Z.toArray),102,160)∧(∀ v∈Z,v.oneCell'=true)∧Z=nodeC nd0 (.slice none 0 0):=⟨_,nodeC_length nd0_ok _,info_node,nodeC_ones,rfl⟩
 have hbld:∀ w,(Instr.build 90 #[]).run Tryz.prog w=.ok (.agg Z.toArray) w:=fun w=>by rw [hZb];exact run_build_node0 w
 obtain ⟨q9,hq9⟩:∃ q,q=w.heap.size:=⟨_,rfl⟩
 obtain ⟨q,hq0⟩:∃ q,q=(w.alloc (.cells (key.map B).toArray 60 (0,0))).heap.size:=⟨_,rfl⟩
 have hq:q=w.heap.size+1:=by rw [hq0];simp
 obtain ⟨w1,hw1⟩:∃ x,x=(w.alloc (.cells (key.map B).toArray 60 (0,0))).alloc (.cells Z.toArray 90 (0,0)):=⟨_,rfl⟩
 have k1:Keeps [] w w1:=by rw [hw1];exact ((Keeps.refl _ _).alloc _).alloc _
 have b1:w1.heap[q]?=some (.cells Z.toArray 90 (0,0)):=by rw [hw1];exact heap_new_at (by simp;omega)
 have b9:Blk w1 q9 60 key:=by rw [hw1];exact (heap_old_at (by simp;omega)).trans (heap_new_at hq9)
 have HLO:=Lib.hid (sLoad_staged (h.keeps k1 (by simp)) (hd.keeps k1 (by simp)) hl he hll)
 have HC:=Lib.hid h.c_mem
 have HSLT:=Lib.hid h.lt
 have HBL:=Lib.hid hbld
 have HZI:=Lib.hid hZi
 have HW1:=Lib.hid hw1
 have HQ:=Lib.hid hq
 have HQ0:=Lib.hid hq0
 have HQ9:=Lib.hid hq9
 have HK1:=Lib.hid k1
 have HB1:=Lib.hid b1
 have HB9:=Lib.hid b9
 have HZ:=Lib.hid (And.intro hZ hZ1)
 have HSZ:=Lib.hid (show (Tryz.prog.info? 90).map (·.size)=some Z.length by rw [hZ];exact size_node)
 have HND:=Lib.hid hnd
 have HOK:=Lib.hid (decodeL_ok hnd)
 have HCM:=Lib.hid (fun wx:World=>baCommon_any (w:=wx) hkk hkl)
 have HSK:=Lib.hid (size_key_of hkl)
 have HSKK:=Lib.hid (size_key_of hkk)
 obtain ⟨cm,hcm⟩:∃ cm,cm=commonK kk key:=⟨_,rfl⟩
 rw [← hcm] at hc HCM
 have hci:¬ (cm:Int) < (depth:Int):=by omega
 have hs1:¬ (0:Int)≤stated:=by omega
 clear hbld hZi hw1 hq hq0 hq9 k1 b1 b9 hZ hZ1 hZb h hd hl he hll hnd hkl hkk hcm hc
 go_enter Tryz.func52,Tryz.ntmps52
 go_upto_region 1 with (first | (refine wl_alloc rfl 90 rfl ?_;refine ⟨_,_,run_alloc _ HZI.out,?_⟩;try simp only [zA,zB,zC,zD,zE,zF,zG,zH]))
 try simp only [Value.cells]
 rw [← HW1.out,← HQ0.out,← HQ9.out]
 go_upto_region 4 with (first | (go_at_call 79;refine HLO.out.mono ?_;rintro r w2 ⟨a,cp,rfl,hown,hnew,hs2,hk2⟩))
 have hcq:c≠q∧c≠q9:=by have:=HC.out;have:=HQ.out;have:=HQ9.out;omega
 have HB2:=Lib.hid ((hk2.block q (lt_of_heap HB1.out) (by simp;omega)).trans HB1.out)
 have HB92:=Lib.hid (HB9.out.keeps hk2 (by simp;omega))
 have HS2:=Lib.hid hs2
 have HK2:=Lib.hid ((HK1.out.mono (G:=[c]) (by simp)).trans (G:=[c]) hk2 (fun j hj=>.inl hj))
 have HD2:=Lib.hid (decode_some (ownB_bytes hown) HND.out)
 clear hown hnew hs2 hk2 hcq
 go_upto_region 7 with (first | (go_at_call 80;refine HD2.out.mono ?_;rintro r w3 ⟨a3,c3,rfl,hO3,hn3,hk3⟩;obtain ⟨N,hN⟩:∃ N,N=nodeC (leafN kk val) (.slice a3 (leafN kk val).val.length c3):=⟨_,rfl⟩;rw [← hN];have HN:=Lib.hid (And.intro hN (And.intro (show N.length=102 by rw [hN];exact nodeC_length HOK.out _) (show ∀ v∈N,v.oneCell'=true by rw [hN];exact nodeC_ones)));have HO3:=Lib.hid (And.intro hO3 (And.intro hn3 hk3));clear hN hO3 hn3 hk3) | (refine wl_alloc rfl 90 rfl ?_;refine ⟨_,_,run_alloc _ HZI.out,?_⟩;(try simp only [Value.cells]);try simp only [zA,zB,zC,zD,zE,zF,zG,zH]) | (refine wl_store rfl 90 (.tmp 15) (.tmp 31) rfl ?_;refine ⟨_,run_store_node (heap_new_at rfl) HZ.out.1 HN.out.2.1 HN.out.2.2,?_⟩;try simp only [zA,zB,zC,zD,zE,zF,zG,zH]))
 obtain ⟨q15,hq15⟩:∃ q,q=w3.heap.size:=⟨_,rfl⟩
 obtain ⟨w5,hw5⟩:∃ x,x=(w3.alloc (.cells Z.toArray 90 (0,0))).setCells q15 0 N:=⟨_,rfl⟩
 have b15:w5.heap[q15]?=some (.cells N.toArray 90 (0,0)):=by rw [hw5];exact store_all (heap_new_at hq15) (by rw [HZ.out.1,HN.out.2.1])
 have k35:Keeps [] w3 w5:=by rw [hw5];exact ((Keeps.refl _ _).alloc _).setCells (.inr (by omega)) _ _
 have k25:Keeps [] w2 w5:=HO3.out.2.2.trans (G:=[]) k35 (by simp)
 have HB5:=Lib.hid ((k25.block q (lt_of_heap HB2.out) (by simp)).trans HB2.out)
 have HB95:=Lib.hid (HB92.out.keeps k25 (by simp))
 have HB15:=Lib.hid b15
 have HS5:=Lib.hid (HS2.out.keeps k25 (by simp))
 have HK5:=Lib.hid (HK2.out.trans (G:=[]) k25 (by simp))
 have HO5:=Lib.hid (show OwnB w5 (.slice a3 (leafN kk val).val.length c3) (leafN kk val).val from ownsRow_keep HO3.out.1 (fun k hk=>k35.block k (World.ownsRow.lt HO3.out.1 k hk).2 (by simp)))
 have HNB:=Lib.hid (show ∀ k,(Value.slice a3 (leafN kk val).val.length c3).ownBlock=some k→w.heap.size≤k∧k≠q from fun k hk=>⟨Nat.le_trans HK2.out.size (HO3.out.2.1 k hk),fun e=>by have:=HO3.out.2.1 k hk;have:=lt_of_heap HB2.out;omega⟩)
 have HNQ:=Lib.hid (show q < q15 by rw [hq15];exact Nat.lt_of_lt_of_le (lt_of_heap HB2.out) HO3.out.2.2.size)
 rw [← hq15]
 rw [← hw5]
 obtain ⟨⟨n0,n1,n2,n3,n4,n5⟩,_,_,hkey,_⟩:=node_parts HOK.out (show w5.heap[q15]?=some (.cells (nodeC (leafN kk val) (.slice a3 (leafN kk val).val.length c3)).toArray 90 (0,0)) by rw [b15,HN.out.1])
 have HKEY:=Lib.hid hkey
 clear hq15 hw5 b15 k35 k25 hkey HO3 HS2 HK2 HB2 HB92 HD2 n1 n2 n5
 have hk0:(leafN kk val).kind=1:=rfl
 rw [hk0] at n0
 have hl0:(leafN kk val).lc=0:=rfl
 have hr0:(leafN kk val).rc=0:=rfl
 rw [hl0] at n3
 rw [hr0] at n4
 clear hk0 hl0 hr0
 go_upto_region 16 with (first | (refine wpList_load_mid rfl 60 (.tmp 44) rfl q15 69 (by rfl) (kk.map B) _ HKEY.out Tryz.underlying60 rfl HSKK.out ?_;try simp only [zA,zB,zC,zD,zE,zF,zG,zH]) | (refine wpList_load_mid rfl 60 (.tmp 9) rfl q9 0 (by rfl) (key.map B) _ (rangeAt_all HB95.out) Tryz.underlying60 rfl HSK.out ?_;try simp only [zA,zB,zC,zD,zE,zF,zG,zH]) | (go_at_call 27;refine (HCM.out _).mono ?_;rintro r w6 ⟨rfl,hk6⟩))
 have HB6:=Lib.hid ((hk6.block q (lt_of_heap HB5.out) (by simp)).trans HB5.out)
 have HS6:=Lib.hid (HS5.out.keeps hk6 (by simp))
 have HK6:=Lib.hid (HK5.out.trans (G:=[]) hk6 (by simp))
 have HB16:=Lib.hid ((hk6.block q15 (lt_of_heap HB15.out) (by simp)).trans HB15.out)
 have HO6:=Lib.hid (show OwnB w6 (.slice a3 (leafN kk val).val.length c3) (leafN kk val).val from ownsRow_keep HO5.out (fun k hk=>hk6.block k (World.ownsRow.lt HO5.out k hk).2 (by simp)))
 clear hk6 n0 n3 n4
 go_wp2_with (first | (refine wpList_load_mid rfl 90 (.tmp 15) rfl q15 0 (by rfl) N _ (rangeAt_all HB16.out) Tryz.underlying90 rfl (by rw [HN.out.2.1];exact size_node) ?_;try simp only [zA,zB,zC,zD,zE,zF,zG,zH]) | (refine wl_store rfl 90 (.tmp 10) (.tmp 62) rfl ?_;refine ⟨_,run_store_node HB6.out HZ.out.1 HN.out.2.1 HN.out.2.2,?_⟩;try simp only [zA,zB,zC,zD,zE,zF,zG,zH]))
 have k6:Keeps [q] w6 (w6.setCells q 0 N):=(Keeps.refl _ _).setCells (.inl (by simp)) _ _
 refine bodyPost_ret (results_row2 (cs:=N) rfl rfl rfl (rangeAt_all (store_all HB6.out (by rw [HZ.out.1,HN.out.2.1]))) Tryz.underlying90 rfl (by rw [HN.out.2.1];exact size_node)) rfl ⟨a3,c3,by rw [← HN.out.1];rfl,?_,?_,?_,?_⟩
 ·exact ownsRow_keep HO6.out (fun k hk=>k6.block k (World.ownsRow.lt HO6.out k hk).2 (by simp;exact (HNB.out k hk).2))
 ·exact fun k hk=>(HNB.out k hk).1
 ·refine HS6.out.keeps k6 (fun k hk e=>?_)
  simp at e
  subst e
  have:=HSLT.out k hk
  have:=HQ.out
  omega
 ·exact HK6.out.setCells (.inr (by rw [HQ.out];omega)) _ _
set_option maxRecDepth 100000 in
set_option maxHeartbeats 3200000 in
theorem nodeAt_leaf_oke {w:World} {s b bf c bm:Nat} {S:St} {sv:Value} {d:D} {F:List Nat} {e:Ent} {key kk val:List UInt8} (h:StoreIn w s b S bf c bm sv) (hd:DiskAt w b d F) (hl:liveE d S.f=0) (he:e∈S.C.kept) (hll:e.load.length≤246) (hnd:decodeL e.kind e.load=some (leafN kk val)) (hkl:key.length=32) (hkk:kk.length=32) (depth:Nat) (stated:Int) (hc:¬ commonK kk key < depth) (hsn:stated=1) :
  Calls Tryz.prog 52 #[.pointer (some ⟨s,0,none⟩),.int .i64 e.key,.int .i64 depth,.int .i64 stated,.agg (key.map B).toArray] w fun r w'=>∃ a' c',r=.returned (.tuple #[.agg (nodeC (leafN kk val) (.slice a' (leafN kk val).val.length c')).toArray,.int .i64 0])∧OwnB w' (.slice a' (leafN kk val).val.length c') (leafN kk val).val∧(∀ k,(Value.slice a' (leafN kk val).val.length c').ownBlock=some k→w.heap.size≤k) ∧
   StoreIn w' s b { S with C:={ S.C with hits:=wrap64 (S.C.hits+1) } } bf c bm sv∧Keeps [c] w w':=by
 obtain ⟨Z,hZ,hZi,hZ1,hZb⟩:∃ Z:List Value,Z.length=102∧(Tryz.prog.info? 90).map (fun i=>(i.zero,i.size,i.bytes))=some (some (.agg Z.toArray),102,160)∧(∀ v∈Z,v.oneCell'=true)∧Z=nodeC nd0 (.slice none 0 0):=⟨_,nodeC_length nd0_ok _,info_node,nodeC_ones,rfl⟩
 have hbld:∀ w,(Instr.build 90 #[]).run Tryz.prog w=.ok (.agg Z.toArray) w:=fun w=>by rw [hZb];exact run_build_node0 w
 obtain ⟨q9,hq9⟩:∃ q,q=w.heap.size:=⟨_,rfl⟩
 obtain ⟨q,hq0⟩:∃ q,q=(w.alloc (.cells (key.map B).toArray 60 (0,0))).heap.size:=⟨_,rfl⟩
 have hq:q=w.heap.size+1:=by rw [hq0];simp
 obtain ⟨w1,hw1⟩:∃ x,x=(w.alloc (.cells (key.map B).toArray 60 (0,0))).alloc (.cells Z.toArray 90 (0,0)):=⟨_,rfl⟩
 have k1:Keeps [] w w1:=by rw [hw1];exact ((Keeps.refl _ _).alloc _).alloc _
 have b1:w1.heap[q]?=some (.cells Z.toArray 90 (0,0)):=by rw [hw1];exact heap_new_at (by simp;omega)
 have b9:Blk w1 q9 60 key:=by rw [hw1];exact (heap_old_at (by simp;omega)).trans (heap_new_at hq9)
 have HLO:=Lib.hid (sLoad_staged (h.keeps k1 (by simp)) (hd.keeps k1 (by simp)) hl he hll)
 have HC:=Lib.hid h.c_mem
 have HSLT:=Lib.hid h.lt
 have HBL:=Lib.hid hbld
 have HZI:=Lib.hid hZi
 have HW1:=Lib.hid hw1
 have HQ:=Lib.hid hq
 have HQ0:=Lib.hid hq0
 have HQ9:=Lib.hid hq9
 have HK1:=Lib.hid k1
 have HB1:=Lib.hid b1
 have HB9:=Lib.hid b9
 have HZ:=Lib.hid (And.intro hZ hZ1)
 have HSZ:=Lib.hid (show (Tryz.prog.info? 90).map (·.size)=some Z.length by rw [hZ];exact size_node)
 have HND:=Lib.hid hnd
 have HOK:=Lib.hid (decodeL_ok hnd)
 have HCM:=Lib.hid (fun wx:World=>baCommon_any (w:=wx) hkk hkl)
 have HSK:=Lib.hid (size_key_of hkl)
 have HSKK:=Lib.hid (size_key_of hkk)
 obtain ⟨cm,hcm⟩:∃ cm,cm=commonK kk key:=⟨_,rfl⟩
 rw [← hcm] at hc HCM
 have hci:¬ (cm:Int) < (depth:Int):=by omega
 subst hsn
 clear hbld hZi hw1 hq hq0 hq9 k1 b1 b9 hZ hZ1 hZb h hd hl he hll hnd hkl hkk hcm hc
 go_enter Tryz.func52,Tryz.ntmps52
 go_upto_region 1 with (first | (refine wl_alloc rfl 90 rfl ?_;refine ⟨_,_,run_alloc _ HZI.out,?_⟩;try simp only [zA,zB,zC,zD,zE,zF,zG,zH]))
 try simp only [Value.cells]
 rw [← HW1.out,← HQ0.out,← HQ9.out]
 go_upto_region 4 with (first | (go_at_call 79;refine HLO.out.mono ?_;rintro r w2 ⟨a,cp,rfl,hown,hnew,hs2,hk2⟩))
 have hcq:c≠q∧c≠q9:=by have:=HC.out;have:=HQ.out;have:=HQ9.out;omega
 have HB2:=Lib.hid ((hk2.block q (lt_of_heap HB1.out) (by simp;omega)).trans HB1.out)
 have HB92:=Lib.hid (HB9.out.keeps hk2 (by simp;omega))
 have HS2:=Lib.hid hs2
 have HK2:=Lib.hid ((HK1.out.mono (G:=[c]) (by simp)).trans (G:=[c]) hk2 (fun j hj=>.inl hj))
 have HD2:=Lib.hid (decode_some (ownB_bytes hown) HND.out)
 clear hown hnew hs2 hk2 hcq
 go_upto_region 7 with (first | (go_at_call 80;refine HD2.out.mono ?_;rintro r w3 ⟨a3,c3,rfl,hO3,hn3,hk3⟩;obtain ⟨N,hN⟩:∃ N,N=nodeC (leafN kk val) (.slice a3 (leafN kk val).val.length c3):=⟨_,rfl⟩;rw [← hN];have HN:=Lib.hid (And.intro hN (And.intro (show N.length=102 by rw [hN];exact nodeC_length HOK.out _) (show ∀ v∈N,v.oneCell'=true by rw [hN];exact nodeC_ones)));have HO3:=Lib.hid (And.intro hO3 (And.intro hn3 hk3));clear hN hO3 hn3 hk3) | (refine wl_alloc rfl 90 rfl ?_;refine ⟨_,_,run_alloc _ HZI.out,?_⟩;(try simp only [Value.cells]);try simp only [zA,zB,zC,zD,zE,zF,zG,zH]) | (refine wl_store rfl 90 (.tmp 15) (.tmp 31) rfl ?_;refine ⟨_,run_store_node (heap_new_at rfl) HZ.out.1 HN.out.2.1 HN.out.2.2,?_⟩;try simp only [zA,zB,zC,zD,zE,zF,zG,zH]))
 obtain ⟨q15,hq15⟩:∃ q,q=w3.heap.size:=⟨_,rfl⟩
 obtain ⟨w5,hw5⟩:∃ x,x=(w3.alloc (.cells Z.toArray 90 (0,0))).setCells q15 0 N:=⟨_,rfl⟩
 have b15:w5.heap[q15]?=some (.cells N.toArray 90 (0,0)):=by rw [hw5];exact store_all (heap_new_at hq15) (by rw [HZ.out.1,HN.out.2.1])
 have k35:Keeps [] w3 w5:=by rw [hw5];exact ((Keeps.refl _ _).alloc _).setCells (.inr (by omega)) _ _
 have k25:Keeps [] w2 w5:=HO3.out.2.2.trans (G:=[]) k35 (by simp)
 have HB5:=Lib.hid ((k25.block q (lt_of_heap HB2.out) (by simp)).trans HB2.out)
 have HB95:=Lib.hid (HB92.out.keeps k25 (by simp))
 have HB15:=Lib.hid b15
 have HS5:=Lib.hid (HS2.out.keeps k25 (by simp))
 have HK5:=Lib.hid (HK2.out.trans (G:=[]) k25 (by simp))
 have HO5:=Lib.hid (show OwnB w5 (.slice a3 (leafN kk val).val.length c3) (leafN kk val).val from ownsRow_keep HO3.out.1 (fun k hk=>k35.block k (World.ownsRow.lt HO3.out.1 k hk).2 (by simp)))
 have HNB:=Lib.hid (show ∀ k,(Value.slice a3 (leafN kk val).val.length c3).ownBlock=some k→w.heap.size≤k∧k≠q from fun k hk=>⟨Nat.le_trans HK2.out.size (HO3.out.2.1 k hk),fun e=>by have:=HO3.out.2.1 k hk;have:=lt_of_heap HB2.out;omega⟩)
 have HNQ:=Lib.hid (show q < q15 by rw [hq15];exact Nat.lt_of_lt_of_le (lt_of_heap HB2.out) HO3.out.2.2.size)
 rw [← hq15]
 rw [← hw5]
 obtain ⟨⟨n0,n1,n2,n3,n4,n5⟩,_,_,hkey,_⟩:=node_parts HOK.out (show w5.heap[q15]?=some (.cells (nodeC (leafN kk val) (.slice a3 (leafN kk val).val.length c3)).toArray 90 (0,0)) by rw [b15,HN.out.1])
 have HKEY:=Lib.hid hkey
 clear hq15 hw5 b15 k35 k25 hkey HO3 HS2 HK2 HB2 HB92 HD2 n1 n2 n5
 have hk0:(leafN kk val).kind=1:=rfl
 rw [hk0] at n0
 have hl0:(leafN kk val).lc=0:=rfl
 have hr0:(leafN kk val).rc=0:=rfl
 rw [hl0] at n3
 rw [hr0] at n4
 clear hk0 hl0 hr0
 go_upto_region 16 with (first | (refine wpList_load_mid rfl 60 (.tmp 44) rfl q15 69 (by rfl) (kk.map B) _ HKEY.out Tryz.underlying60 rfl HSKK.out ?_;try simp only [zA,zB,zC,zD,zE,zF,zG,zH]) | (refine wpList_load_mid rfl 60 (.tmp 9) rfl q9 0 (by rfl) (key.map B) _ (rangeAt_all HB95.out) Tryz.underlying60 rfl HSK.out ?_;try simp only [zA,zB,zC,zD,zE,zF,zG,zH]) | (go_at_call 27;refine (HCM.out _).mono ?_;rintro r w6 ⟨rfl,hk6⟩))
 have HB6:=Lib.hid ((hk6.block q (lt_of_heap HB5.out) (by simp)).trans HB5.out)
 have HS6:=Lib.hid (HS5.out.keeps hk6 (by simp))
 have HK6:=Lib.hid (HK5.out.trans (G:=[]) hk6 (by simp))
 have HB16:=Lib.hid ((hk6.block q15 (lt_of_heap HB15.out) (by simp)).trans HB15.out)
 have HO6:=Lib.hid (show OwnB w6 (.slice a3 (leafN kk val).val.length c3) (leafN kk val).val from ownsRow_keep HO5.out (fun k hk=>hk6.block k (World.ownsRow.lt HO5.out k hk).2 (by simp)))
 clear hk6 n0 n3 n4
 go_wp2_with (first | (refine wpList_load_mid rfl 90 (.tmp 15) rfl q15 0 (by rfl) N _ (rangeAt_all HB16.out) Tryz.underlying90 rfl (by rw [HN.out.2.1];exact size_node) ?_;try simp only [zA,zB,zC,zD,zE,zF,zG,zH]) | (refine wl_store rfl 90 (.tmp 10) (.tmp 62) rfl ?_;refine ⟨_,run_store_node HB6.out HZ.out.1 HN.out.2.1 HN.out.2.2,?_⟩;try simp only [zA,zB,zC,zD,zE,zF,zG,zH]))
 have k6:Keeps [q] w6 (w6.setCells q 0 N):=(Keeps.refl _ _).setCells (.inl (by simp)) _ _
 refine bodyPost_ret (results_row2 (cs:=N) rfl rfl rfl (rangeAt_all (store_all HB6.out (by rw [HZ.out.1,HN.out.2.1]))) Tryz.underlying90 rfl (by rw [HN.out.2.1];exact size_node)) rfl ⟨a3,c3,by rw [← HN.out.1];rfl,?_,?_,?_,?_⟩
 ·exact ownsRow_keep HO6.out (fun k hk=>k6.block k (World.ownsRow.lt HO6.out k hk).2 (by simp;exact (HNB.out k hk).2))
 ·exact fun k hk=>(HNB.out k hk).1
 ·refine HS6.out.keeps k6 (fun k hk e=>?_)
  simp at e
  subst e
  have:=HSLT.out k hk
  have:=HQ.out
  omega
 ·exact HK6.out.setCells (.inr (by rw [HQ.out];omega)) _ _
open Go.RowKit
set_option maxRecDepth 100000 in
theorem run_build_key0 (w:World):(Instr.build 60 #[]).run Tryz.prog w=.ok (.agg (z32.map B).toArray) w:=by kernel_rfl
set_option maxRecDepth 100000 in
set_option maxHeartbeats 6400000 in
theorem r9Right_branch {w:World} {lp lc rp rc:Nat} {ls rs:List UInt8} (h1:ls.length=32) (h2:rs.length=32) (b1:lp < 4294967296) (b2:lc < 4294967296) (b3:rp < 4294967296) (b4:rc < 4294967296) :
  Calls Tryz.prog 106 #[.agg (nodeC (branchN lp lc ls rp rc rs) (.slice none 0 0)).toArray] w fun e w'=>e=.returned (.bool (branchOk lp lc ls rp rc rs))∧Keeps [] w w':=by
 obtain ⟨bb,hbb⟩:∃ b,b=branchOk lp lc ls rp rc rs:=⟨_,rfl⟩
 rw [← hbb]
 obtain ⟨K,hK⟩:∃ K,K=nodeC (branchN lp lc ls rp rc rs) (.slice none 0 0):=⟨_,rfl⟩
 obtain ⟨Z,hZ⟩:∃ Z,Z=z32:=⟨_,rfl⟩
 have hZl:Z.length=32:=by rw [hZ];rfl
 obtain ⟨q,hq⟩:∃ q,q=w.heap.size:=⟨_,rfl⟩
 obtain ⟨w1,hw1⟩:∃ x,x=w.alloc (.cells K.toArray 90 (0,0)):=⟨_,rfl⟩
 have k1:Keeps [] w w1:=by rw [hw1];exact (Keeps.refl _ _).alloc _
 have hb1:w1.heap[q]?=some (.cells K.toArray 90 (0,0)):=by rw [hw1];exact heap_new_at hq
 have hn:(branchN lp lc ls rp rc rs).ok:=⟨h1,h2,rfl⟩
 have hp:=fun (wx:World) (h:Keeps [] w1 wx)=>node_parts (w:=wx) (n:=branchN lp lc ls rp rc rs) (vv:=.slice none 0 0) hn (by rw [← hK];exact (h.block q (lt_of_heap hb1) (by simp)).trans hb1)
 have hp1:=hp w1 (Keeps.refl _ _)
 have c0:w1.cell? ⟨q,0,none⟩=some (.int .i64 2):=hp1.1.1
 have c1:w1.cell? ⟨q,1,none⟩=some (.int .i64 lp):=hp1.1.2.1
 have c2:w1.cell? ⟨q,2,none⟩=some (.int .i64 rp):=hp1.1.2.2.1
 have c101:w1.cell? ⟨q,101,none⟩=some (.slice none 0 0):=hp1.1.2.2.2.2.2
 have hbl:=run_build_key0
 rw [← hZ] at hbl
 have hqx:=fun w=>run_equalIn_bytes w 9998 Tryz.underlying60 hZl hZl
 rw [show (Z == Z)=true by simp] at hqx
 have HKR:=Lib.hid (show w1.rangeAt q 69 (Z.map B) by rw [hZ];exact hp1.2.2.2.1)
 have HSK:=Lib.hid (size_key_of hZl)
 have HBL:=Lib.hid hbl
 have HP:=Lib.hid hp
 have HLS:=Lib.hid (And.intro (dg_size_of h1) (dg_size_of h2))
 have HLN:=Lib.hid (And.intro h1 h2)
 have HW1:=Lib.hid hw1
 have HQ:=Lib.hid hq
 have HK1:=Lib.hid k1
 have HB:=Lib.hid (show bb=(childOk lp lc ls && childOk rp rc rs && decide (lp≠rp) && decide (2≤lc+rc) && decide (lc+rc≤4096)) from hbb)
 have HKN:=Lib.hid hK
 obtain ⟨bl,hbl'⟩:∃ b,b=childOk lp lc ls:=⟨_,rfl⟩
 obtain ⟨br,hbr'⟩:∃ b,b=childOk rp rc rs:=⟨_,rfl⟩
 have hcl:=fun (wx:World)=>r9Child_any (w:=wx) (p:=lp) (c:=lc) h1
 have hcr:=fun (wx:World)=>r9Child_any (w:=wx) (p:=rp) (c:=rc) h2
 rw [← hbl'] at hcl
 rw [← hbr'] at hcr
 have HCL:=Lib.hid hcl
 have HCR:=Lib.hid hcr
 have HBB:=Lib.hid (show bb=(bl && br && decide (lp≠rp) && decide (2≤lc+rc) && decide (lc+rc≤4096)) by rw [hbl',hbr'];exact hbb)
 clear hbb hK hZ hZl hq hw1 k1 hb1 hn hp hp1 hbl hbl' hbr' hcl hcr h1 h2 HB
 by_cases he:lp=rp
 ·have e1:(lp:Int)=(rp:Int):=by omega
  have HX:=Lib.hid (show bb=false by rw [HBB.out];simp [he])
  clear he HBB
  go_enter Tryz.func106,Tryz.ntmps106
  go_upto_region 1 with fail
  rw [← HKN.out,← HW1.out,← HQ.out]
  go_wp2_with (first | (refine Go.BigFrame.wpList_want (by rfl) fun K hK=>wp_load_mid 60 (.tmp 53) rfl q 69 (by rfl) (Z.map B) _ HKR.out Tryz.underlying60 rfl HSK.out (hK _ _ ?_);try simp only [zA,zB,zC,zD,zE,zF,zG,zH]) | (refine Go.BigFrame.wpList_want (by rfl) fun K hK=>wp_build 60 #[] #[] rfl (by simp) ⟨_,_,HBL.out _,hK _ _ ?_⟩;try simp only [zA,zB,zC,zD,zE,zF,zG,zH]))
  go_ret
  exact ⟨by rw [HX.out];rfl,HK1.out⟩
 ·have e1:¬ (lp:Int)=(rp:Int):=by omega
  have HBB2:=Lib.hid (show bb=(bl && br && decide (2≤lc+rc) && decide (lc+rc≤4096)) by rw [HBB.out];simp [he])
  clear he HBB
  obtain ⟨N,hN⟩:∃ N,N=lc+rc:=⟨_,rfl⟩
  have eN:(lc:Int)+(rc:Int)=(N:Int):=by omega
  rw [← hN] at HBB2
  go_enter Tryz.func106,Tryz.ntmps106
  go_upto_region 1 with fail
  rw [← HKN.out,← HW1.out,← HQ.out]
  go_upto_region 7 with (first | (refine Go.BigFrame.wpList_want (by rfl) fun K hK=>wp_load_mid 60 (.tmp 53) rfl q 69 (by rfl) (Z.map B) _ HKR.out Tryz.underlying60 rfl HSK.out (hK _ _ ?_);try simp only [zA,zB,zC,zD,zE,zF,zG,zH]) | (refine Go.BigFrame.wpList_want (by rfl) fun K hK=>wp_build 60 #[] #[] rfl (by simp) ⟨_,_,HBL.out _,hK _ _ ?_⟩;try simp only [zA,zB,zC,zD,zE,zF,zG,zH]))
  have c3:w1.cell? ⟨q,3,none⟩=some (.int .i64 lc):=(HP.out _ (Keeps.refl _ _)).1.2.2.2.1
  have HRL:=Lib.hid (show w1.rangeAt q 5 (ls.map B) from (HP.out _ (Keeps.refl _ _)).2.1)
  clear hqx c0 c101
  go_upto_region 8 with (first | (refine wpList_load_mid rfl 88 (.tmp 75) rfl q 5 (by rfl) (ls.map B) _ HRL.out Tryz.underlying88 rfl HLS.out.1 ?_;try simp only [zA,zB,zC,zD,zE,zF,zG,zH]) | (go_at_call 117;refine (HCL.out _).mono ?_;rintro e w2 ⟨rfl,hk2⟩))
  have c2':w2.cell? ⟨q,2,none⟩=some (.int .i64 rp):=(HP.out _ hk2).1.2.2.1
  have c4':w2.cell? ⟨q,4,none⟩=some (.int .i64 rc):=(HP.out _ hk2).1.2.2.2.2.1
  have HRR:=Lib.hid (show w2.rangeAt q 37 (rs.map B) from (HP.out _ hk2).2.2.1)
  have HK2:=Lib.hid hk2
  clear hk2 c1 c2 c3
  go_upto_region 9 with (first | (refine wpList_load_mid rfl 88 (.tmp 82) rfl q 37 (by rfl) (rs.map B) _ HRR.out Tryz.underlying88 rfl HLS.out.2 ?_;try simp only [zA,zB,zC,zD,zE,zF,zG,zH]) | (go_at_call 117;refine (HCR.out _).mono ?_;rintro e w3 ⟨rfl,hk3⟩))
  have HK3:=Lib.hid (HK2.out.trans (G:=[]) hk3 (by simp))
  have c3:w3.cell? ⟨q,3,none⟩=some (.int .i64 lc):=(HP.out _ HK3.out).1.2.2.2.1
  have c4:w3.cell? ⟨q,4,none⟩=some (.int .i64 rc):=(HP.out _ HK3.out).1.2.2.2.2.1
  clear hk3 c2' c4' hN
  have HKF:=Lib.hid (HK1.out.trans (G:=[]) HK3.out (by simp))
  cases bl with
  | false =>
   have HX:=Lib.hid (show bb=false by rw [HBB2.out];simp)
   go_wp2_with fail
   go_ret
   exact ⟨by rw [HX.out];rfl,HKF.out⟩
  | true =>
   cases br with
   | false =>
    have HX:=Lib.hid (show bb=false by rw [HBB2.out];simp)
    go_wp2_with fail
    go_ret
    exact ⟨by rw [HX.out];rfl,HKF.out⟩
   | true =>
    by_cases n2:2≤N
    ·have i2:(2:Int)≤(N:Int):=by omega
     by_cases n4:N≤4096
     ·have i4:(N:Int)≤4096:=by omega
      have HX:=Lib.hid (show bb=true by rw [HBB2.out];simp [n2,n4])
      clear n2 n4
      go_wp2_with fail
      go_ret
      exact ⟨by rw [HX.out];rfl,HKF.out⟩
     ·have i4:¬ (N:Int)≤4096:=by omega
      have HX:=Lib.hid (show bb=false by rw [HBB2.out];simp [n4])
      clear n2 n4
      go_wp2_with fail
      go_ret
      exact ⟨by rw [HX.out];rfl,HKF.out⟩
    ·have i2:¬ (2:Int)≤(N:Int):=by omega
     have HX:=Lib.hid (show bb=false by rw [HBB2.out];simp [n2])
     clear n2
     go_wp2_with fail
     go_ret
     exact ⟨by rw [HX.out];rfl,HKF.out⟩
open Go.RowKit
set_option maxRecDepth 100000 in
theorem run_build_nodeK (w:World) (kind:Int):(Instr.build 90 #[(0,.int .i64 kind)]).run Tryz.prog w=.ok (.agg (nodeC ⟨kind,0,0,0,0,z32,z32,z32,[]⟩ (.slice none 0 0)).toArray) w :=
 run_build w _ _ _ (by show _=_;kernel_rfl)
theorem node_set_key {n:Nde} (hok:n.ok) (vv:Value) {i:Nat} (hi:i < 32) (x:UInt8):(nodeC n vv).toArray.setIfInBounds (69+i) (B x)=(nodeC { n with key:=n.key.set i x } vv).toArray:=by
 obtain ⟨h1,h2,h3⟩:=hok
 rw [List.setIfInBounds_toArray]
 congr 1
 have p3:∀ ky:List UInt8,nodeC { n with key:=ky } vv=([Value.int .i64 n.kind,.int .i64 n.left,.int .i64 n.right,.int .i64 n.lc,.int .i64 n.rc]++n.ls.map B++n.rs.map B)++(ky.map B++[vv]):=fun ky=>by simp [nodeC]
 have l3:([Value.int .i64 n.kind,.int .i64 n.left,.int .i64 n.right,.int .i64 n.lc,.int .i64 n.rc]++n.ls.map B++n.rs.map B).length=69:=by simp [h1,h2]
 have e:=p3 n.key
 rw [show ({ n with key:=n.key }:Nde)=n from rfl] at e
 rw [e,p3,List.set_append_right _ _ (by rw [l3];omega),l3,Nat.add_sub_cancel_left,List.set_append_left _ _ (by rw [List.length_map,h3];exact hi),List.map_set]
theorem node_set_ls {n:Nde} (hok:n.ok) (vv:Value) {i:Nat} (hi:i < 32) (x:UInt8):(nodeC n vv).toArray.setIfInBounds (5+i) (B x)=(nodeC { n with ls:=n.ls.set i x } vv).toArray:=by
 obtain ⟨h1,h2,h3⟩:=hok
 rw [List.setIfInBounds_toArray]
 congr 1
 have p3:∀ ky:List UInt8,nodeC { n with ls:=ky } vv=[Value.int .i64 n.kind,.int .i64 n.left,.int .i64 n.right,.int .i64 n.lc,.int .i64 n.rc]++(ky.map B++(n.rs.map B++n.key.map B++[vv])):=fun ky=>by simp [nodeC]
 have e:=p3 n.ls
 rw [show ({ n with ls:=n.ls }:Nde)=n from rfl] at e
 rw [e,p3,List.set_append_right _ _ (by simp),show [Value.int .i64 n.kind,.int .i64 n.left,.int .i64 n.right,.int .i64 n.lc,.int .i64 n.rc].length=5 from rfl,Nat.add_sub_cancel_left,List.set_append_left _ _ (by rw [List.length_map,h1];exact hi),List.map_set]
theorem node_set_rs {n:Nde} (hok:n.ok) (vv:Value) {i:Nat} (hi:i < 32) (x:UInt8):(nodeC n vv).toArray.setIfInBounds (37+i) (B x)=(nodeC { n with rs:=n.rs.set i x } vv).toArray:=by
 obtain ⟨h1,h2,h3⟩:=hok
 rw [List.setIfInBounds_toArray]
 congr 1
 have p3:∀ ky:List UInt8,nodeC { n with rs:=ky } vv=([Value.int .i64 n.kind,.int .i64 n.left,.int .i64 n.right,.int .i64 n.lc,.int .i64 n.rc]++n.ls.map B)++(ky.map B++(n.key.map B++[vv])):=fun ky=>by simp [nodeC]
 have l3:([Value.int .i64 n.kind,.int .i64 n.left,.int .i64 n.right,.int .i64 n.lc,.int .i64 n.rc]++n.ls.map B).length=37:=by simp [h1]
 have e:=p3 n.rs
 rw [show ({ n with rs:=n.rs }:Nde)=n from rfl] at e
 rw [e,p3,List.set_append_right _ _ (by rw [l3];omega),l3,Nat.add_sub_cancel_left,List.set_append_left _ _ (by rw [List.length_map,h2];exact hi),List.map_set]
theorem node_set_val {n:Nde} (hok:n.ok) (vv v2:Value):(nodeC n vv).toArray.setIfInBounds 101 v2=(nodeC n v2).toArray:=by
 obtain ⟨h1,h2,h3⟩:=hok
 rw [List.setIfInBounds_toArray]
 congr 1
 have p3:∀ v,nodeC n v=([Value.int .i64 n.kind,.int .i64 n.left,.int .i64 n.right,.int .i64 n.lc,.int .i64 n.rc]++n.ls.map B++n.rs.map B++n.key.map B)++[v]:=fun v=>by simp [nodeC]
 have l3:([Value.int .i64 n.kind,.int .i64 n.left,.int .i64 n.right,.int .i64 n.lc,.int .i64 n.rc]++n.ls.map B++n.rs.map B++n.key.map B).length=101:=by simp [h1,h2,h3]
 rw [p3 vv,p3 v2,List.set_append_right _ _ (by rw [l3];omega),l3]
 rfl
def fillL (L:List UInt8) (i:Nat):List UInt8:=L.take i++List.replicate (32 - i) 0
theorem fillL_length {L:List UInt8} (h:L.length=32) {i:Nat} (hi:i≤32):(fillL L i).length=32:=by simp [fillL,h];omega
theorem fillL_zero (L:List UInt8):fillL L 0=z32:=by simp [fillL,z32]
theorem fillL_all {L:List UInt8} (h:L.length=32):fillL L 32=L:=by simp [fillL,List.take_of_length_le (Nat.le_of_eq h)]
theorem fillL_set {L:List UInt8} {i:Nat} {x:UInt8} (hx:L[i]?=some x) (hL:L.length=32):(fillL L i).set i x=fillL L (i+1):=by
 have hi:i < L.length:=(List.getElem?_eq_some_iff.1 hx).1
 have hl:(L.take i).length=i:=by rw [List.length_take];omega
 unfold fillL
 rw [List.set_append_right _ _ (by rw [hl];exact Nat.le_refl _),hl,Nat.sub_self,show 32 - i=(32 - (i+1))+1 by omega,List.replicate_succ,List.set_cons_zero,List.take_add_one,hx]
 simp
set_option maxRecDepth 100000 in
set_option maxHeartbeats 1600000 in
theorem r9Decode_none {w:World} {kind:Int} {a:Option Addr} {n c:Nat} (hnm:n≤1099511627776) (h1:¬ (kind=1∧32≤n∧n≤160)) (h2:¬ (kind=2∧n=80)) :
  Calls Tryz.prog 86 #[.int .i64 kind,.slice a n c] w fun e w'=>e=.returned (.tuple #[.agg (nodeC nd0 (.slice none 0 0)).toArray,.int .i64 90])∧Keeps [] w w':=by
 obtain ⟨Z,hZ,hZi,hZ1,hZb⟩:∃ Z:List Value,Z.length=102∧(Tryz.prog.info? 90).map (fun i=>(i.zero,i.size,i.bytes))=some (some (.agg Z.toArray),102,160)∧(∀ v∈Z,v.oneCell'=true)∧Z=nodeC nd0 (.slice none 0 0):=⟨_,nodeC_length nd0_ok _,info_node,nodeC_ones,rfl⟩
 obtain ⟨K,hK⟩:∃ K,K=nodeC ⟨kind,0,0,0,0,z32,z32,z32,[]⟩ (.slice none 0 0):=⟨_,rfl⟩
 have hKl:K.length=102:=by rw [hK];exact nodeC_length (n:=⟨kind,0,0,0,0,z32,z32,z32,[]⟩) ⟨rfl,rfl,rfl⟩ _
 have hK1:∀ v∈K,v.oneCell'=true:=by rw [hK];exact nodeC_ones
 have hbk:=fun w=>run_build_nodeK w kind
 rw [← hK] at hbk
 have hbz:=run_build_node0
 rw [← hZb] at hbz
 rw [← hZb]
 obtain ⟨g4,hg4⟩:∃ x,x=w.heap.size:=⟨_,rfl⟩
 obtain ⟨w1,hw1⟩:∃ x,x=w.alloc (.cells Z.toArray 90 (0,0)):=⟨_,rfl⟩
 have k1:Keeps [] w w1:=by rw [hw1];exact (Keeps.refl _ _).alloc _
 have b1:w1.heap[g4]?=some (.cells Z.toArray 90 (0,0)):=by rw [hw1];exact heap_new_at hg4
 obtain ⟨w2,hw2⟩:∃ x,x=(w1.alloc (.cells Z.toArray 90 (0,0))).setCells w1.heap.size 0 K:=⟨_,rfl⟩
 have k2:Keeps [] w1 w2:=by rw [hw2];exact ((Keeps.refl _ _).alloc _).setCells (.inr (Nat.le_refl _)) _ _
 have HZ:=Lib.hid (And.intro hZ hZ1)
 have HZI:=Lib.hid hZi
 have HK:=Lib.hid (And.intro hKl hK1)
 have HBK:=Lib.hid hbk
 have HBZ:=Lib.hid hbz
 have HG4:=Lib.hid hg4
 have HW1:=Lib.hid hw1
 have HW2:=Lib.hid hw2
 have HB4:=Lib.hid ((k2.block g4 (lt_of_heap b1) (by simp)).trans b1)
 have HKK:=Lib.hid (k1.trans (G:=[]) k2 (by simp))
 have HSZ:=Lib.hid (show (Tryz.prog.info? 90).map (·.size)=some Z.length by rw [hZ];exact size_node)
 have HH:=Lib.hid (And.intro h1 h2)
 clear hZ hZi hZ1 hZb hK hKl hK1 hbk hbz hg4 hw1 hw2 k1 k2 b1 h1 h2
 by_cases hk1:kind=1
 ·by_cases hn:n < 32
  ·have i1:(n:Int) < 32:=by omega
   go_enter Tryz.func86,Tryz.ntmps86
   go_upto_region 1 with (first | (refine wl_alloc rfl 90 rfl ?_;refine ⟨_,_,run_alloc _ HZI.out,?_⟩;try simp only [zA,zB,zC,zD,zE,zF,zG,zH]))
   try simp only [Value.cells]
   rw [← HW1.out,← HG4.out]
   go_upto_region 2 with (first | (refine wl_build rfl 90 #[(0,.tmp 11)] #[(0,.int .i64 kind)] rfl (by simp [Act.eval]) ?_;refine ⟨_,_,HBK.out _,?_⟩;try simp only [zA,zB,zC,zD,zE,zF,zG,zH]) | (refine wl_alloc rfl 90 rfl ?_;refine ⟨_,_,run_alloc _ HZI.out,?_⟩;(try simp only [Value.cells]);try simp only [zA,zB,zC,zD,zE,zF,zG,zH]) | (refine wl_store rfl 90 (.tmp 6) (.tmp 12) rfl ?_;refine ⟨_,run_store_node (heap_new_at rfl) HZ.out.1 HK.out.1 HK.out.2,?_⟩;try simp only [zA,zB,zC,zD,zE,zF,zG,zH]))
   rw [← HW2.out]
   go_wp2_with (first | (refine wl_build rfl 90 #[] #[] rfl (by simp [Act.eval]) ?_;refine ⟨_,_,HBZ.out _,?_⟩;try simp only [zA,zB,zC,zD,zE,zF,zG,zH]) | (refine wl_store rfl 90 (.tmp 4) (.tmp 23) rfl ?_;refine ⟨_,run_store_node HB4.out HZ.out.1 HZ.out.1 HZ.out.2,?_⟩;try simp only [zA,zB,zC,zD,zE,zF,zG,zH]))
   refine bodyPost_ret (results_row2 (cs:=Z) rfl rfl rfl (rangeAt_all (store_all HB4.out rfl)) Tryz.underlying90 rfl HSZ.out) rfl ⟨rfl,?_⟩
   exact HKK.out.setCells (.inr (by rw [HG4.out];exact Nat.le_refl _)) _ _
  ·have i1:¬ (n:Int) < 32:=by omega
   have i2:(160:Int) < (n:Int):=by have:=HH.out.1;omega
   clear hn
   go_enter Tryz.func86,Tryz.ntmps86
   go_upto_region 1 with (first | (refine wl_alloc rfl 90 rfl ?_;refine ⟨_,_,run_alloc _ HZI.out,?_⟩;try simp only [zA,zB,zC,zD,zE,zF,zG,zH]))
   try simp only [Value.cells]
   rw [← HW1.out,← HG4.out]
   go_upto_region 2 with (first | (refine wl_build rfl 90 #[(0,.tmp 11)] #[(0,.int .i64 kind)] rfl (by simp [Act.eval]) ?_;refine ⟨_,_,HBK.out _,?_⟩;try simp only [zA,zB,zC,zD,zE,zF,zG,zH]) | (refine wl_alloc rfl 90 rfl ?_;refine ⟨_,_,run_alloc _ HZI.out,?_⟩;(try simp only [Value.cells]);try simp only [zA,zB,zC,zD,zE,zF,zG,zH]) | (refine wl_store rfl 90 (.tmp 6) (.tmp 12) rfl ?_;refine ⟨_,run_store_node (heap_new_at rfl) HZ.out.1 HK.out.1 HK.out.2,?_⟩;try simp only [zA,zB,zC,zD,zE,zF,zG,zH]))
   rw [← HW2.out]
   go_wp2_with (first | (refine wl_build rfl 90 #[] #[] rfl (by simp [Act.eval]) ?_;refine ⟨_,_,HBZ.out _,?_⟩;try simp only [zA,zB,zC,zD,zE,zF,zG,zH]) | (refine wl_store rfl 90 (.tmp 4) (.tmp 23) rfl ?_;refine ⟨_,run_store_node HB4.out HZ.out.1 HZ.out.1 HZ.out.2,?_⟩;try simp only [zA,zB,zC,zD,zE,zF,zG,zH]))
   refine bodyPost_ret (results_row2 (cs:=Z) rfl rfl rfl (rangeAt_all (store_all HB4.out rfl)) Tryz.underlying90 rfl HSZ.out) rfl ⟨rfl,?_⟩
   exact HKK.out.setCells (.inr (by rw [HG4.out];exact Nat.le_refl _)) _ _
 ·by_cases hk2:kind=2
  ·have hn:((n:Int) != 80)=true:=by have:=HH.out.2;simp;omega
   go_enter Tryz.func86,Tryz.ntmps86
   go_upto_region 1 with (first | (refine wl_alloc rfl 90 rfl ?_;refine ⟨_,_,run_alloc _ HZI.out,?_⟩;try simp only [zA,zB,zC,zD,zE,zF,zG,zH]))
   try simp only [Value.cells]
   rw [← HW1.out,← HG4.out]
   go_upto_region 2 with (first | (refine wl_build rfl 90 #[(0,.tmp 11)] #[(0,.int .i64 kind)] rfl (by simp [Act.eval]) ?_;refine ⟨_,_,HBK.out _,?_⟩;try simp only [zA,zB,zC,zD,zE,zF,zG,zH]) | (refine wl_alloc rfl 90 rfl ?_;refine ⟨_,_,run_alloc _ HZI.out,?_⟩;(try simp only [Value.cells]);try simp only [zA,zB,zC,zD,zE,zF,zG,zH]) | (refine wl_store rfl 90 (.tmp 6) (.tmp 12) rfl ?_;refine ⟨_,run_store_node (heap_new_at rfl) HZ.out.1 HK.out.1 HK.out.2,?_⟩;try simp only [zA,zB,zC,zD,zE,zF,zG,zH]))
   rw [← HW2.out]
   go_wp2_with (first | (refine wl_build rfl 90 #[] #[] rfl (by simp [Act.eval]) ?_;refine ⟨_,_,HBZ.out _,?_⟩;try simp only [zA,zB,zC,zD,zE,zF,zG,zH]) | (refine wl_store rfl 90 (.tmp 4) (.tmp 58) rfl ?_;refine ⟨_,run_store_node HB4.out HZ.out.1 HZ.out.1 HZ.out.2,?_⟩;try simp only [zA,zB,zC,zD,zE,zF,zG,zH]))
   refine bodyPost_ret (results_row2 (cs:=Z) rfl rfl rfl (rangeAt_all (store_all HB4.out rfl)) Tryz.underlying90 rfl HSZ.out) rfl ⟨rfl,?_⟩
   exact HKK.out.setCells (.inr (by rw [HG4.out];exact Nat.le_refl _)) _ _
  ·have hk3:(kind != 2)=true:=by simpa using hk2
   go_enter Tryz.func86,Tryz.ntmps86
   go_upto_region 1 with (first | (refine wl_alloc rfl 90 rfl ?_;refine ⟨_,_,run_alloc _ HZI.out,?_⟩;try simp only [zA,zB,zC,zD,zE,zF,zG,zH]))
   try simp only [Value.cells]
   rw [← HW1.out,← HG4.out]
   go_upto_region 2 with (first | (refine wl_build rfl 90 #[(0,.tmp 11)] #[(0,.int .i64 kind)] rfl (by simp [Act.eval]) ?_;refine ⟨_,_,HBK.out _,?_⟩;try simp only [zA,zB,zC,zD,zE,zF,zG,zH]) | (refine wl_alloc rfl 90 rfl ?_;refine ⟨_,_,run_alloc _ HZI.out,?_⟩;(try simp only [Value.cells]);try simp only [zA,zB,zC,zD,zE,zF,zG,zH]) | (refine wl_store rfl 90 (.tmp 6) (.tmp 12) rfl ?_;refine ⟨_,run_store_node (heap_new_at rfl) HZ.out.1 HK.out.1 HK.out.2,?_⟩;try simp only [zA,zB,zC,zD,zE,zF,zG,zH]))
   rw [← HW2.out]
   go_wp2_with (first | (refine wl_build rfl 90 #[] #[] rfl (by simp [Act.eval]) ?_;refine ⟨_,_,HBZ.out _,?_⟩;try simp only [zA,zB,zC,zD,zE,zF,zG,zH]) | (refine wl_store rfl 90 (.tmp 4) (.tmp 58) rfl ?_;refine ⟨_,run_store_node HB4.out HZ.out.1 HZ.out.1 HZ.out.2,?_⟩;try simp only [zA,zB,zC,zD,zE,zF,zG,zH]))
   refine bodyPost_ret (results_row2 (cs:=Z) rfl rfl rfl (rangeAt_all (store_all HB4.out rfl)) Tryz.underlying90 rfl HSZ.out) rfl ⟨rfl,?_⟩
   exact HKK.out.setCells (.inr (by rw [HG4.out];exact Nat.le_refl _)) _ _
end Go.Proofs.YtakaocenbempmaaGreatDoor
