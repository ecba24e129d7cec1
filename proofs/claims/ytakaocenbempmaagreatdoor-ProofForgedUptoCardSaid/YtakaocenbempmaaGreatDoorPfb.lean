/-
  Lemmas of a claim, bundle b: XPrN XPrO XQF.
-/
import Derived.Deep.CutBlock
import Derived.Deep.DeepCutAuto
import Derived.Test.YtakaocenbempmaaGreatDoorPfa
import Derived.Test.YtakaocenbempmaaGreatDoorPfQ
set_option linter.unusedVariables false
set_option linter.unusedSimpArgs false
namespace Go.Proofs.YtakaocenbempmaaGreatDoor
open Go.RowKit
theorem leafD_length {k:Nat} {key val:List UInt8} (hk:k≤32):(leafD k key val).length=32:=cutL_length (shaL_length _) hk
theorem or_pow_u8 {b r:Nat} (hb:b < 256) (hr:r < 8):bits BinOp.or IntKind.u8 (b:Int) ((2 ^ r:Nat):Int)=((b ||| 2 ^ r:Nat):Int):=by
 have key:∀ (x:Fin 256) (y:Fin 8),bits BinOp.or IntKind.u8 ((x.val:Nat):Int) ((2 ^ y.val:Nat):Int)=((x.val ||| 2 ^ y.val:Nat):Int):=by decide +kernel
 exact key ⟨b,hb⟩ ⟨r,hr⟩
theorem pow_u8 {r:Nat} (hr:r < 8):IntKind.u8.wrap ((2:Int) ^ r)=((2 ^ r:Nat):Int):=by
 have key:∀ y:Fin 8,IntKind.u8.wrap ((2:Int) ^ y.val)=((2 ^ y.val:Nat):Int):=by decide +kernel
 exact key ⟨r,hr⟩
theorem or_pow_byte {b r:Nat} (hb:b < 256) (hr:r < 8):(UInt8.ofNat b ||| UInt8.ofNat (2 ^ r)).toNat=b ||| 2 ^ r:=by
 have key:∀ (x:Fin 256) (y:Fin 8),(UInt8.ofNat x.val ||| UInt8.ofNat (2 ^ y.val)).toNat=x.val ||| 2 ^ y.val:=by decide +kernel
 exact key ⟨b,hb⟩ ⟨r,hr⟩
theorem pf_set_bit {f:Bool} {v bb:List UInt8} {l:List (List UInt8)} (vv sv:Value) {q:Nat} (x:UInt8) (hq:q < bb.length):(pfCells ⟨f,v,bb,l⟩ vv sv).toArray.setIfInBounds (2+q) (B x)=(pfCells ⟨f,v,bb.set q x,l⟩ vv sv).toArray:=by
 rw [List.setIfInBounds_toArray]
 congr 1
 unfold pfCells
 rw [show 2+q=q+1+1 by omega,List.set_cons_succ,List.set_cons_succ,List.set_append_left _ _ (by rw [List.length_map];exact hq),List.map_set]
theorem climbD_length {k:Nat} {key d:List UInt8} {f t:Nat} (hd:d.length=32) (hk:k≤32):(climbD k key f d t).length=32:=climbN_length hk (cutL_length hd hk) _
set_option maxRecDepth 100000 in
set_option maxHeartbeats 12800000 in
theorem prove_ok {w:World} {s b bf c bm fuel:Nat} {S:St} {sv:Value} {d:D} {F:List Nat} {root:Int} {key:List UInt8} {S':List (List UInt8)} {R:DR} (h:StoreIn w s b S bf c bm sv) (hm2:S.f.sup.mark=2) (hd:DiskAt w b d F) (hl:liveE d S.f=0) (hlo:∀ e∈S.C.kept,e.load.length≤246)
  (hF:∀ k∈F,k≠c) (h1:1≤S.f.sup.width) (h2:S.f.sup.width≤32) (ht:Tabs w) (htc:2≠c∧0≠c) (hkl:key.length=32) (hr2:2≤root) (hrn:root < S.f.sup.mark+S.C.kept.length) (hf:root < fuel)
  (hR:downL S.C.kept S.f.sup.mark key fuel root (-1) 0 (emptiesL S.f.sup.width.toNat 256)=(S',R)) (hRe:R≠.err) :
  Calls Tryz.prog 12 #[.pointer (some ⟨s,0,none⟩),.int .i64 root,.agg (key.map B).toArray] w fun r w'=>∃ vv sv',r=.returned (.tuple #[.agg (pfCells (pvPf R key S.f.sup.width.toNat S') vv sv').toArray,.int .i64 0])∧OwnB w' vv (pvVal R key)∧SumsAt w' sv' (pvPf R key S.f.sup.width.toNat S').sums∧(∀ k,vv.ownBlock=some k→w.heap.size≤k)∧(∀ k,sv'.ownBlock=some k→w.heap.size≤k)∧(∃ x,StoreIn w' s b (S.hit x) bf c bm sv)∧Keeps [c] w w':=by
 obtain ⟨Z,⟨hZ,hZi,hZ1⟩,hZb⟩:∃ Z:List Value,(Z.length=35∧(Tryz.prog.info? 57).map (fun i=>(i.zero,i.size,i.bytes))=some (some (.agg Z.toArray),35,88)∧(∀ v∈Z,v.oneCell'=true))∧Z=pfZC:=⟨_,pfZC_spec,rfl⟩
 have hmark:=h.mark
 have hroom:=h.room
 obtain ⟨N,hN⟩:∃ N:Int,N=S.f.sup.mark+S.C.kept.length:=⟨_,rfl⟩
 have hrn0:=hrn
 have q0:¬ root=0:=by omega
 have q1:¬ root < 2:=by omega
 have q2:¬ N≤root:=by omega
 obtain ⟨q5,hq5⟩:∃ q,q=w.heap.size:=⟨_,rfl⟩
 obtain ⟨q,hq0⟩:∃ q,q=(w.alloc (.cells (key.map B).toArray 60 (0,0))).heap.size:=⟨_,rfl⟩
 have hq:q=w.heap.size+1:=by rw [hq0];simp
 have HQ0:=Lib.hid hq0
 clear hq0
 obtain ⟨w1,hw1⟩:∃ x,x=(w.alloc (.cells (key.map B).toArray 60 (0,0))).alloc (.cells Z.toArray 57 (0,0)):=⟨_,rfl⟩
 have k1:Keeps [] w w1:=by rw [hw1];exact ((Keeps.refl _ _).alloc _).alloc _
 have b1:w1.heap[q]?=some (.cells Z.toArray 57 (0,0)):=by rw [hw1];exact heap_new_at (by simp;omega)
 have b5:Blk w1 q5 60 key:=by rw [hw1];exact (heap_old_at (by simp;omega)).trans (heap_new_at hq5)
 have hs1:=h.keeps k1 (by simp)
 have hd1:=hd.keeps k1 (by simp)
 have ht1:=ht.keeps k1 (by simp) (by simp)
 have CL:=sLive_any hs1 hd1
 rw [hl] at CL
 have hnext:=fun (wx:World) (hk:Keeps [] w1 wx)=>sNext_any (hs1.keeps hk (by simp))
 rw [← hN] at hnext
 obtain ⟨SP,hSP⟩:∃ SP,SP=supV S.f.sup:=⟨_,rfl⟩
 have hsup:=fun (wx:World) (hk:Keeps [] w1 wx)=>sSuper_any (hs1.keeps hk (by simp))
 have hfw:=fun (wx:World)=>field_width wx S.f.sup
 rw [← hSP] at hsup hfw
 obtain ⟨n,hn⟩:∃ n,n=S.f.sup.width:=⟨_,rfl⟩
 rw [← hn] at h1 h2 hfw hR
 obtain ⟨E,hE⟩:∃ E,E=emptiesL n.toNat 256:=⟨_,rfl⟩
 rw [← hE] at hR
 have hdown:=fun (wx wy:World) (qw:Nat) (hk:Keeps [] w1 wy) (hk2:Keeps [] wy wx) (hqw:wy.heap.size≤qw) (hw:WayAt wx qw n E E) =>
  down_any (hs1.keeps (hk.trans (G:=[]) hk2 (by simp)) (by simp)) hm2 (hd1.keeps (hk.trans (G:=[]) hk2 (by simp)) (by simp)) hl hlo hw (fun hm=>by have:=(hs1.keeps hk (by simp)).lt qw hm;omega) (fun k hkF=>⟨hF k hkF,fun e=>by have:=(hd1.keeps hk (by simp)).lt k hkF;omega⟩) hkl root (.inr ⟨by omega,by omega⟩) hf hR
 have hbeg:=fun (wx:World) (hk:Keeps [] w1 wx)=>begin_any (w:=wx) n (by omega) (by omega) n.toNat (by omega) (ht1.keeps hk (by simp) (by simp))
 rw [← hE] at hbeg
 have CL':=Lib.hid CL
 have HNX:=Lib.hid hnext
 have HSU:=Lib.hid hsup
 have HFW:=Lib.hid hfw
 have HBG:=Lib.hid hbeg
 have HDN:=Lib.hid hdown
 have HZI:=Lib.hid hZi
 have HW1:=Lib.hid hw1
 have HQ:=Lib.hid hq
 have HQ5:=Lib.hid hq5
 have HK1:=Lib.hid k1
 have HB1:=Lib.hid b1
 have HB5:=Lib.hid b5
 have HC:=Lib.hid h.c_mem
 have HSLT:=Lib.hid h.lt
 have HZ:=Lib.hid (And.intro hZ hZ1)
 have HKL:=Lib.hid hkl
 have HSK:=Lib.hid (size_key_of hkl)
 have HSZ:=Lib.hid (show (Tryz.prog.info? 57).map (·.size)=some Z.length by rw [hZ];exact size_proof)
 have HT1:=Lib.hid (And.intro ht1 htc)
 have HN12:=Lib.hid (And.intro h1 h2)
 have HNE:=Lib.hid (And.intro hn hE)
 clear hZi hw1 hq hq5 k1 b1 b5 hZ hZ1 CL hs1 hd1 h hd hl hkl hnext hsup hfw hdown hbeg hSP hN hmark hroom ht ht1 htc hm2 hlo hF hr2 hrn hrn0 hf hR h1 h2 hn hE
 have HRE:=Lib.hid hRe
 have HZB:=Lib.hid hZb
 clear hRe hZb
 obtain ⟨X,hX,hXi⟩:∃ X:Array Value,X=Array.replicate 32 (.int .u8 0)∧(Tryz.prog.info? 88).map (fun i=>(i.zero,i.size,i.bytes))=some (some (.agg X),32,32):=⟨_,rfl,info_digest⟩
 have HX:=Lib.hid hX
 have HXI:=Lib.hid hXi
 clear hX hXi
 go_enter Tryz.func12,Tryz.ntmps12
 go_upto_region 1 with (first | (refine wl_alloc rfl 57 rfl ?_;refine ⟨_,_,run_alloc _ HZI.out,?_⟩;try simp only [zA,zB,zC,zD,zE,zF,zG,zH]))
 try simp only [Value.cells]
 rw [← HW1.out,← HQ0.out,← HQ5.out]
 go_upto_region 4 with (first | (go_at_call 20;refine CL'.out.mono ?_;rintro r w2 ⟨rfl,hk2⟩))
 go_upto_region 6 with fail
 go_upto_region 8 with (first | (go_at_call 15;refine (HNX.out _ hk2).mono ?_;rintro r w3 ⟨rfl,hk3⟩))
 have hk13:=hk2.trans (G:=[]) hk3 (by simp)
 clear hk2 hk3
 go_upto_region 9 with (first | (go_at_call 9;refine (HSU.out _ hk13).mono ?_;rintro r w4 ⟨rfl,hk4⟩) | (refine wl_field rfl 42 (.tmp 39) 0 rfl ?_;refine ⟨_,_,HFW.out _,?_⟩;try simp only [zA,zB,zC,zD,zE,zF,zG,zH]) | (go_at_call 25;refine (HBG.out _ (hk13.trans (G:=[]) hk4 (by simp))).mono ?_;rintro r w5 ⟨qw,rfl,hway,hqw,hk5⟩))
 have hk14:=hk13.trans (G:=[]) hk4 (by simp)
 have hk15:=hk14.trans (G:=[]) hk5 (by simp)
 have HR5:=Lib.hid (rangeAt_all (HB5.out.keeps hk15 (by simp)))
 have HD5:=Lib.hid (HDN.out w5 w4 qw hk14 hk5 hqw hway)
 have HK15:=Lib.hid hk15
 have HQW:=Lib.hid (show w1.heap.size≤qw from Nat.le_trans hk14.size hqw)
 have HQW5:=Lib.hid (lt_of_heap hway.row)
 clear hk13 hk4 hk5 hk14 hk15 hway hqw
 go_upto_region 12 with (first | (refine wpList_load_mid rfl 60 (.tmp 5) rfl q5 0 (by rfl) (key.map B) _ HR5.out Tryz.underlying60 rfl HSK.out ?_;try simp only [zA,zB,zC,zD,zE,zF,zG,zH]) | (go_at_call 26;refine HD5.out.mono ?_;rintro r w6 ⟨⟨x6,hs6⟩,hwy6,hk6,hp6⟩;obtain ⟨ptr,rfl,hlf6⟩:=downPost_leaf hp6 HRE.out))
 obtain ⟨w7,hw7⟩:∃ x,x=w6.alloc (.cells Z.toArray 57 (0,0)):=⟨_,rfl⟩
 obtain ⟨qp,hqp⟩:∃ x,x=w6.heap.size:=⟨_,rfl⟩
 have k67:Keeps [] w6 w7:=by rw [hw7];exact (Keeps.refl _ _).alloc _
 have bp7:w7.heap[qp]?=some (.cells Z.toArray 57 (0,0)):=by rw [hw7];exact heap_new_at hqp
 have HBP:=Lib.hid bp7
 have HS7:=Lib.hid (hs6.keeps k67 (by simp))
 have HW7Y:=Lib.hid (hwy6.keeps k67 (by simp))
 have HK57:=Lib.hid (hk6.trans (G:=[]) k67 (by simp))
 have HPLT:=Lib.hid (show w6.heap.size≤qp by omega)
 have HLF:=Lib.hid (And.intro hlf6 (And.intro HK15.out.size (And.intro hk6.size k67)))
 have HW7:=Lib.hid hw7
 have HQP:=Lib.hid hqp
 have HR57:=Lib.hid (rangeAt_all ((HB5.out.keeps HK15.out (by simp)).keeps HK57.out (by simp;have h1:=HC.out;have h2:=HQ5.out;have h3:=HQW.out;have h4:=lt_of_heap HB5.out;omega)))
 clear hw7 hqp bp7 hs6 hwy6 hk6 hp6 k67 hlf6 HD5 HR5
 go_upto_block 0 with (first | (refine wl_alloc rfl 57 rfl ?_;refine ⟨_,_,run_alloc _ HZI.out,?_⟩;(try simp only [Value.cells]);rw [← HW7.out,← HQP.out];try simp only [zA,zB,zC,zD,zE,zF,zG,zH]))
 go_cut [13] (fun h13 wx=>∃ vv,WayAt wx qw n (pvSums R key n.toNat S') E∧wx.heap[qp]?=some (.cells (pfCells ⟨pvFound R key,pvVal R key,List.replicate 32 0,[]⟩ vv (.slice none 0 0)).toArray 57 (0,0))∧OwnB wx vv (pvVal R key)∧(∀ k,vv.ownBlock=some k→w5.heap.size≤k∧k≠qp)∧Keeps [qw,qp] w7 wx)
 case first =>
  obtain rfl | ⟨nd,rfl⟩:R=.none∨∃ nd,R=.leaf nd:=by
   cases R with
   | err=>exact absurd rfl HRE.out
   | none=>exact .inl rfl
   | leaf nd=>exact .inr ⟨nd,rfl⟩
  ·have hp:ptr=none:=HLF.out.1
   subst hp
   go_wp2_with fail
   go_meet
   case rel=>exact ⟨.slice none 0 0,HW7Y.out,by rw [HBP.out,HZB.out];rfl,World.ownsRow_nil _ _ _ _,by simp [Value.ownBlock],Keeps.refl _ _⟩
  ·obtain ⟨ql,a,cc,rfl,hql,hlrow,hlown,hlb,hlok,hlk,hlv⟩:=HLF.out.1
   have h67:=HLF.out.2.2.2
   have hlq:ql≠qp∧ql≠qw∧q5≠qp∧q5≠qw∧qw≠qp:=by
    have a1:=lt_of_heap hlrow
    have a2:=HPLT.out
    have a3:=HQW5.out
    have a4:=lt_of_heap HB5.out
    have a5:=HQW.out
    have a6:=HLF.out.2.2.1
    omega
   have HFT:=Lib.hid (show ∀ wx:World,Keeps [qw,qp] w7 wx→wx.cell? ⟨ql,101,none⟩=some (.slice a nd.val.length cc)∧wx.rangeAt ql 69 (nd.key.map B)∧wx.rangeAt q5 0 (key.map B) from fun wx hk=>by
    have r:wx.heap[ql]?=some (.cells (nodeC nd (.slice a nd.val.length cc)).toArray 90 (0,0)):=(hk.block ql (Nat.lt_of_lt_of_le (lt_of_heap hlrow) h67.size) (by simp;exact ⟨hlq.2.1,hlq.1⟩)).trans ((h67.block ql (lt_of_heap hlrow) (by simp)).trans hlrow)
    obtain ⟨⟨_,_,_,_,_,c6⟩,_,_,ck,_⟩:=node_parts hlok r
    exact ⟨c6,ck,rangeAt_of_heap HR57.out (hk.block q5 (Nat.lt_of_lt_of_le (lt_of_heap HB5.out) (Nat.le_trans HK15.out.size HK57.out.size)) (by simp;exact ⟨hlq.2.2.2.1,hlq.2.2.1⟩))⟩)
   have HOWN:=Lib.hid (show OwnB w7 (.slice a nd.val.length cc) nd.val from ownsRow_keep hlown (fun k hk=>h67.block k (World.ownsRow.lt hlown k hk).2 (by simp)))
   have HLB:=Lib.hid (show ∀ k,(Value.slice a nd.val.length cc).ownBlock=some k→w5.heap.size≤k∧k≠qp from fun k hk=>⟨(hlb k hk).1,fun e=>by have:=(World.ownsRow.lt hlown k hk).2;have:=HPLT.out;omega⟩)
   have HLQ:=Lib.hid hlq
   have HLV:=Lib.hid hlv
   have HNK:=Lib.hid (hlok.2.2)
   have HSN:=Lib.hid (size_key_of hlok.2.2)
   have hqd:=fun w=>run_equalIn_bytes w 9998 Tryz.underlying60 hlok.2.2 HKL.out
   clear hql hlrow hlown hlb hlok hlk hlv h67 hlq
   by_cases hkk:nd.key=key
   ·have hkb:(nd.key == key)=true:=by rw [hkk];simp
    rw [hkb] at hqd
    have HKK:=Lib.hid hkk
    clear hkk hkb
    go_upto_region 16 with fail
    refine wp_region_held_drew (S:=(fun w'=>w'.rangeAt ql 69 (nd.key.map B)∧w'.rangeAt q5 0 (key.map B))) (by kernel_rfl) ?_ (fun hHeld=>?_)
    ·exact (HFT.out w7.drew ((Keeps.refl _ _).drew)).2
    refine tk 0 ?_
    refine tk 1 ?_
    refine tk 2 ?_
    refine tkb 3 rfl (yieldsIf_load_mid (by rfl) 60 (.tmp 95) rfl ql 69 rfl (nd.key.map B) _ (fun _ h=>h.1) Tryz.underlying60 rfl HSN.out) ?_
    refine tkb 4 rfl (yieldsIf_load_mid (by rfl) 60 (.tmp 5) rfl q5 0 rfl (key.map B) _ (fun _ h=>h.2) Tryz.underlying60 rfl HSK.out) ?_
    refine tk 5 ?_
    refine tk 6 ?_
    refine wpAnyH_done (by kernel_rfl) ?_ _
    clear hHeld hqd
    go_upto_region 17 with fail
    obtain ⟨wA,hwA⟩:∃ x,x=w7.drew.drew:=⟨_,rfl⟩
    obtain ⟨wB,hwB⟩:∃ x,x=wA.setCell ⟨qp,0,none⟩ (.bool true):=⟨_,rfl⟩
    obtain ⟨wC,hwC⟩:∃ x,x=wB.setCell ⟨qp,1,none⟩ (.slice a nd.val.length cc):=⟨_,rfl⟩
    have rA:wA.heap[qp]?=some (.cells (pfCells pfZ (.slice none 0 0) (.slice none 0 0)).toArray 57 (0,0)):=by rw [hwA];exact HBP.out.trans (by rw [HZB.out];rfl)
    have rB:wB.heap[qp]?=some (.cells (pfCells ⟨true,[],List.replicate 32 0,[]⟩ (.slice none 0 0) (.slice none 0 0)).toArray 57 (0,0)):=by
     rw [hwB,heap_setCell_same _ _ _ _ _ _ rA]
     simp [pfCells,pfZ]
    have rC:wC.heap[qp]?=some (.cells (pfCells ⟨true,nd.val,List.replicate 32 0,[]⟩ (.slice a nd.val.length cc) (.slice none 0 0)).toArray 57 (0,0)):=by
     rw [hwC,heap_setCell_same _ _ _ _ _ _ rB]
     simp [pfCells]
    have kA:Keeps [qw,qp] w7 wA:=by rw [hwA];exact ((Keeps.refl _ _).drew).drew
    have kB:Keeps [qw,qp] w7 wB:=by rw [hwB];exact kA.setCell (.inl (by simp)) _
    have kC:Keeps [qw,qp] w7 wC:=by rw [hwC];exact kB.setCell (.inl (by simp)) _
    have fA:=frozen_of_row wA qp 0 _ _ rA
    have fB:=frozen_of_row wB qp 1 _ _ rB
    have cA:=(pf_cells rA (by simp [pfZ])).1
    have cB:=(pf_cells rB (by simp)).2.1
    have HKA:=Lib.hid kA
    have HKB:=Lib.hid kB
    have HKC:=Lib.hid kC
    have HKQ:=Lib.hid (show Keeps [qp] w7 wC by rw [hwC,hwB,hwA];exact ((((Keeps.refl _ _).drew).drew).setCell (.inl (by simp)) _).setCell (.inl (by simp)) _)
    have HRC:=Lib.hid rC
    have HWB:=Lib.hid hwB
    have HWC:=Lib.hid hwC
    have HWA:=Lib.hid hwA
    clear hwA hwB hwC rA rB rC kA kB kC
    refine wp_region_held_drew (S:=(fun w'=>w'.cell? ⟨ql,101,none⟩=some (.slice a nd.val.length cc))) (by kernel_rfl) ?_ (fun hHeld=>?_)
    ·rw [← HWA.out];exact (HFT.out wA HKA.out).1
    rw [← HWA.out] at hHeld ⊢
    refine tk 0 ?_
    refine tk 1 ?_
    refine tk 2 ?_
    refine tk 3 ?_
    refine tk 4 ?_
    refine ac 5 fun K hK=>?_
    go_simp
    rw [← HWB.out]
    refine hK.out _ _ ?_ (fun hHeld=>?_)
    ·exact (HFT.out wB HKB.out).1
    clear hK K
    try simp only [zA,zB,zC,zD,zE,zF,zG,zH]
    refine tk 6 ?_
    refine ac 7 fun K hK=>?_
    go_simp
    rw [← HWC.out]
    refine hK.out _ _ ?_ (fun hHeld=>?_)
    ·exact (HFT.out wC HKC.out).1
    clear hK K
    try simp only [zA,zB,zC,zD,zE,zF,zG,zH]
    refine wpAnyH_done (by kernel_rfl) ?_ _
    clear hHeld fA fB cA cB
    go_wp2_with fail
    go_meet
    case rel =>
     refine ⟨.slice a nd.val.length cc,?_,?_,?_,HLB.out,HKC.out⟩
     ·show WayAt wC qw n (if nd.key=key then S' else _) E
      rw [if_pos HKK.out]
      exact HW7Y.out.keeps HKQ.out (by simp;exact HLQ.out.2.2.2.2)
     ·show wC.heap[qp]?=some (.cells (pfCells ⟨decide (nd.key=key),if nd.key=key then nd.val else [],List.replicate 32 0,[]⟩ _ _).toArray 57 (0,0))
      rw [if_pos HKK.out,decide_eq_true HKK.out]
      exact HRC.out
     ·show OwnB wC _ (if nd.key=key then nd.val else [])
      rw [if_pos HKK.out]
      exact ownsRow_keep HOWN.out (fun k hk=>HKC.out.block k (World.ownsRow.lt HOWN.out k hk).2 (by
       have h1:=HLB.out k hk
       have h2:=HQW5.out
       simp
       omega))
   ·have hkb:(nd.key == key)=false:=by rw [beq_eq_false_iff_ne];exact hkk
    rw [hkb] at hqd
    have HKK:=Lib.hid hkk
    clear hkk hkb
    go_upto_region 16 with fail
    refine wp_region_held_drew (S:=(fun w'=>w'.rangeAt ql 69 (nd.key.map B)∧w'.rangeAt q5 0 (key.map B))) (by kernel_rfl) ?_ (fun hHeld=>?_)
    ·exact (HFT.out w7.drew ((Keeps.refl _ _).drew)).2
    refine tk 0 ?_
    refine tk 1 ?_
    refine tk 2 ?_
    refine tkb 3 rfl (yieldsIf_load_mid (by rfl) 60 (.tmp 95) rfl ql 69 rfl (nd.key.map B) _ (fun _ h=>h.1) Tryz.underlying60 rfl HSN.out) ?_
    refine tkb 4 rfl (yieldsIf_load_mid (by rfl) 60 (.tmp 5) rfl q5 0 rfl (key.map B) _ (fun _ h=>h.2) Tryz.underlying60 rfl HSK.out) ?_
    refine tk 5 ?_
    refine tk 6 ?_
    refine wpAnyH_done (by kernel_rfl) ?_ _
    clear hHeld hqd
    have htab:=fun (wx:World) (hk:Keeps [qw,qp] w7 wx)=>((HT1.out.1.keeps HK15.out (by simp) (by simp)).keeps HK57.out (by
     have h1:=HT1.out.1.lt
     have h2:=HQW.out
     have h3:=HT1.out.2
     simp
     exact ⟨h3.1,by omega⟩) (by
     have h1:=HT1.out.1.lt
     have h2:=HQW.out
     have h3:=HT1.out.2
     simp
     exact ⟨h3.2,by omega⟩)).keeps hk (by
     have h1:=HT1.out.1.lt
     have h2:=HQW.out
     have h3:=HPLT.out
     have h4:=HLF.out.2.1
     have h5:=HLF.out.2.2.1
     simp
     exact ⟨by omega,by omega⟩) (by
     have h1:=HT1.out.1.lt
     have h2:=HQW.out
     have h3:=HPLT.out
     have h4:=HLF.out.2.1
     have h5:=HLF.out.2.2.1
     simp
     exact ⟨by omega,by omega⟩)
    obtain ⟨m,hm⟩:∃ m,m=255 - commonK nd.key key:=⟨_,rfl⟩
    obtain ⟨cm,hcm⟩:∃ cm,cm=commonK nd.key key:=⟨_,rfl⟩
    have hcl:cm < 256:=by
     have h1:=commonK_le nd.key key
     rcases Nat.lt_or_ge cm 256 with h | h
     ·exact h
     ·exact absurd ((commonK_eq HNK.out HKL.out).1 (by omega)) HKK.out
    have e255:(255:Int) - (cm:Int)=(m:Int):=by omega
    have wm:wrap64 (m:Int)=(m:Int):=by unfold wrap64;omega
    have wmi:IntKind.i64.wrap (m:Int)=(m:Int):=IntWalk.i64_in _ (by omega)
    have mb0:(0:Int)≤(m:Int):=by omega
    have mb1:(m:Int) < 256:=by omega
    have hml:m < 256:=by omega
    have HMX:=Lib.hid hm
    have HCX:=Lib.hid hcm
    clear hm hcm
    obtain ⟨L,hL⟩:∃ L,L=leafD n.toNat nd.key nd.val:=⟨_,rfl⟩
    obtain ⟨M,hM⟩:∃ M,M=climbD n.toNat nd.key 0 L m:=⟨_,rfl⟩
    have hn1:=HN12.out.1
    have hn2:=HN12.out.2
    have hLl:L.length=32:=by rw [hL];exact leafD_length (by omega)
    have hMl:M.length=32:=by rw [hM];exact climbD_length hLl (by omega)
    have HCM:=Lib.hid (show ∀ wx:World,Calls Tryz.prog 27 #[.agg (nd.key.map B).toArray,.agg (key.map B).toArray] wx fun e w'=>e=.returned (.int .i64 (cm:Int))∧Keeps [] wx w' from fun wx=>by rw [HCX.out];exact baCommon_any (w:=wx) HNK.out HKL.out)
    have HLEAF:=Lib.hid (show ∀ wx:World,Keeps [] w7 wx→Calls Tryz.prog 29 #[.int .i64 n,.agg (nd.key.map B).toArray,.slice a nd.val.length cc] wx fun e w'=>e=.returned (.agg (L.map B).toArray)∧Keeps [] wx w' from fun wx hk=>by
     rw [hL]
     exact leaf_any (w:=wx) HNK.out (BytesAt.keeps (ownB_bytes HOWN.out) hk (by simp)) (by have:=HLV.out;omega) n (by omega) (by omega) n.toNat (by omega) (htab wx (hk.mono (by simp))))
    have HCLIMB:=Lib.hid (show ∀ wx:World,Keeps [] w7 wx→Calls Tryz.prog 28 #[.int .i64 n,.agg (nd.key.map B).toArray,.int .i64 0,.agg (L.map B).toArray,.int .i64 (m:Int)] wx fun e w'=>e=.returned (.agg (M.map B).toArray)∧Keeps [] wx w' from fun wx hk=>by
     rw [hM]
     exact climb_any (w:=wx) HNK.out hLl n (by omega) (by omega) n.toNat (by omega) (htab wx (hk.mono (by simp))) 0 m (by omega) (by omega))
    have HCW:=Lib.hid (fun (wx:World) (hk:Keeps [] w7 wx)=>(show wx.cell? ⟨qw,0,none⟩=some (.int .i64 n) by
     rw [cell_of_row wx qw 0 _ _ _ (HW7Y.out.keeps hk (by simp)).row];rfl))
    have HMD:=Lib.hid (And.intro HMX.out (And.intro hMl (And.intro hml hLl)))
    have HCMI:=Lib.hid (And.intro HCX.out (And.intro hL hM))
    clear hMl hml hcl hL hM hn1 hn2 hLl htab
    have hqq:qp≠qw:=Ne.symm HLQ.out.2.2.2.2
    have HFT2:=Lib.hid (fun (wx:World) (hk:Keeps [] w7 wx)=>HFT.out wx (hk.mono (by simp)))
    clear hqq
    go_upto_region 13 with fail
    refine wp_region_held_drew (S:=(fun w'=>w'.rangeAt ql 69 (nd.key.map B)∧w'.rangeAt q5 0 (key.map B))) (by kernel_rfl) ?_ (fun hHeld=>?_)
    ·exact (HFT2.out w7.drew.drew (((Keeps.refl _ _).drew).drew)).2
    refine tk 0 ?_
    refine tk 1 ?_
    refine tk 2 ?_
    refine tkb 3 rfl (yieldsIf_load_mid (by rfl) 60 (.tmp 56) rfl ql 69 rfl (nd.key.map B) _ (fun _ h=>h.1) Tryz.underlying60 rfl HSN.out) ?_
    refine tkb 4 rfl (yieldsIf_load_mid (by rfl) 60 (.tmp 5) rfl q5 0 rfl (key.map B) _ (fun _ h=>h.2) Tryz.underlying60 rfl HSK.out) ?_
    refine ac 5 fun K hK=>?_
    go_simp
    refine (HCM.out _).mono ?_
    rintro r w8 ⟨rfl,hk8⟩
    have HK8:=Lib.hid ((((Keeps.refl [] w7).drew).drew).trans (G:=[]) hk8 (by simp))
    clear hk8
    refine hK.out _ _ ?_ (fun hHeld=>?_)
    ·exact (HFT2.out w8 HK8.out).2
    clear hK K
    try simp only [zA,zB,zC,zD,zE,zF,zG,zH]
    refine tk 6 ?_
    refine tk 7 ?_
    refine wpAnyH_done (by kernel_rfl) ?_ _
    clear hHeld
    go_upto_region 14 with fail
    have HROW:=Lib.hid (fun (wx:World) (hk:Keeps [] w7 wx)=>way_store (w:=wx) (o:=1+m * 32) (x:=M) (show wx.heap[qw]?=_ from (HW7Y.out.keeps hk (by simp)).row) (by rw [List.length_cons,List.length_append,sumCells_length HW7Y.out.s32,sumCells_length HW7Y.out.e32,HW7Y.out.lenS,HW7Y.out.lenE];have:=HMD.out.2.2.1;omega) HMD.out.2.1)
    refine wp_region_held_drew (S:=(fun w'=>(w'.cell? ⟨qw,0,none⟩=some (.int .i64 n)∧w'.cell? ⟨ql,101,none⟩=some (.slice a nd.val.length cc))∧w'.rangeAt ql 69 (nd.key.map B))) (by kernel_rfl) ?_ (fun hHeld=>?_)
    ·exact ⟨⟨HCW.out _ (HK8.out.drew),(HFT2.out _ (HK8.out.drew)).1⟩,(HFT2.out _ (HK8.out.drew)).2.1⟩
    refine tk 0 ?_
    refine tk 1 ?_
    refine tk 2 ?_
    refine tk 3 ?_
    refine tk 4 ?_
    refine tk 5 ?_
    refine tk 6 ?_
    refine tk 7 ?_
    refine tk 8 ?_
    refine tkb 9 rfl (yieldsIf_load_mid (by rfl) 60 (.tmp 69) rfl ql 69 rfl (nd.key.map B) _ (fun _ h=>h.2) Tryz.underlying60 rfl HSN.out) ?_
    refine tk 10 ?_
    refine tk 11 ?_
    refine tk 12 ?_
    refine tk 13 ?_
    refine tk 14 ?_
    refine tk 15 ?_
    refine tk 16 ?_
    refine tkb 17 rfl (yieldsIf_load_mid (by rfl) 60 (.tmp 77) rfl ql 69 rfl (nd.key.map B) _ (fun _ h=>h.2) Tryz.underlying60 rfl HSN.out) ?_
    refine tk 18 ?_
    refine tk 19 ?_
    refine tk 20 ?_
    refine tk 21 ?_
    refine tk 23 ?_
    refine tk 25 ?_
    refine tk 26 ?_
    refine ac 22 fun K hK=>?_
    go_simp
    refine (HLEAF.out _ (HK8.out.drew)).mono ?_
    rintro r w9 ⟨rfl,hk9⟩
    have HK9:=Lib.hid ((HK8.out.drew).trans (G:=[]) hk9 (by simp))
    clear hk9
    refine hK.out _ _ ?_ (fun hHeld=>?_)
    ·exact ⟨⟨HCW.out _ HK9.out,(HFT2.out _ HK9.out).1⟩,(HFT2.out _ HK9.out).2.1⟩
    clear hK K
    try simp only [zA,zB,zC,zD,zE,zF,zG,zH]
    refine ac 24 fun K hK=>?_
    go_simp
    refine (HCLIMB.out _ HK9.out).mono ?_
    rintro r w10 ⟨rfl,hk10⟩
    have HK10:=Lib.hid (HK9.out.trans (G:=[]) hk10 (by simp))
    clear hk10
    refine hK.out _ _ ?_ (fun hHeld=>?_)
    ·exact ⟨⟨HCW.out _ HK10.out,(HFT2.out _ HK10.out).1⟩,(HFT2.out _ HK10.out).2.1⟩
    clear hK K
    try simp only [zA,zB,zC,zD,zE,zF,zG,zH]
    refine tk 27 ?_
    refine ac 28 fun K hK=>?_
    (refine st_store rfl 88 (.tmp 88) (.tmp 85) rfl ?_;refine ⟨_,HROW.out _ HK10.out,?_⟩;try simp only [zA,zB,zC,zD,zE,zF,zG,zH])
    obtain ⟨w11,hw11⟩:∃ x,x=w10.setCells qw (1+m * 32) (M.map B):=⟨_,rfl⟩
    have hwy11:WayAt w11 qw n (S'.set m M) E:=by rw [hw11];exact WayAt.set (HW7Y.out.keeps HK10.out (by simp)) HMD.out.2.2.1 HMD.out.2.1
    have k11:Keeps [qw] w7 w11:=by rw [hw11];exact (HK10.out.mono (by simp)).setCells (.inl (by simp)) _ _
    have HK11:=Lib.hid k11
    have HWY11:=Lib.hid hwy11
    have HFT11:=Lib.hid (show (w11.cell? ⟨qw,0,none⟩=some (.int .i64 n)∧w11.cell? ⟨ql,101,none⟩=some (.slice a nd.val.length cc))∧w11.rangeAt ql 69 (nd.key.map B) from by
     have h:=HFT.out w11 (k11.mono (by simp))
     refine ⟨⟨?_,h.1⟩,h.2.1⟩
     rw [cell_of_row w11 qw 0 _ _ _ hwy11.row];rfl)
    rw [← hw11]
    clear hw11 hwy11 k11
    refine hK.out _ _ ?_ (fun hHeld=>?_)
    ·exact HFT11.out
    clear hK K
    try simp only [zA,zB,zC,zD,zE,zF,zG,zH]
    refine wpAnyH_done (by kernel_rfl) ?_ _
    clear hHeld
    go_wp2_with fail
    go_meet
    case rel =>
     refine ⟨.slice none 0 0,?_,?_,?_,by simp [Value.ownBlock],HK11.out.mono (by simp)⟩
     ·show WayAt w11 qw n (if nd.key=key then S' else S'.set (255 - commonK nd.key key) (climbD n.toNat nd.key 0 (leafD n.toNat nd.key nd.val) (255 - commonK nd.key key))) E
      rw [if_neg HKK.out,← HMD.out.1,← HCMI.out.2.1,← HCMI.out.2.2]
      exact HWY11.out
     ·show w11.heap[qp]?=some (.cells (pfCells ⟨decide (nd.key=key),if nd.key=key then nd.val else [],List.replicate 32 0,[]⟩ _ _).toArray 57 (0,0))
      rw [if_neg HKK.out,decide_eq_false HKK.out,HK11.out.block qp (lt_of_heap HBP.out) (by simp;exact Ne.symm HLQ.out.2.2.2.2),HBP.out,HZB.out]
      rfl
     ·show OwnB w11 _ (if nd.key=key then nd.val else [])
      rw [if_neg HKK.out]
      exact World.ownsRow_nil _ _ _ _
 case rest =>
  obtain ⟨vv,hwy,hrow,hown,hvb,hkc⟩:=hcut
  obtain ⟨wz,rfl⟩:∃ x:World,x=wc:=⟨_,rfl⟩
  obtain ⟨T,hT⟩:∃ T,T=pvSums R key n.toNat S':=⟨_,rfl⟩
  rw [← hT] at hwy
  have HT:=Lib.hid hT
  have HWY:=Lib.hid hwy
  have HRS:=Lib.hid hwy.sums
  have HS8:=Lib.hid (show (Tryz.prog.info? 93).map (·.size)=some (sumCells T).length by rw [sumCells_length hwy.s32,hwy.lenS];exact size_256d)
  have HROW:=Lib.hid hrow
  have HOWN:=Lib.hid hown
  have HVB:=Lib.hid hvb
  have HKZ:=Lib.hid hkc
  have hqwlt:=lt_of_heap hwy.row
  clear hT hwy hrow hown hvb hkc
  go_wp2_with (first | (refine wpList_load_mid rfl 93 (.tmp 107) rfl qw 1 (by rfl) (sumCells T) _ HRS.out Tryz.underlying93 rfl HS8.out ?_;try simp only [zA,zB,zC,zD,zE,zF,zG,zH]))
  go_loopw [109] (fun iv wr=>∃ (j:Nat) (sv':Value),j≤256∧iv=.int .i64 j∧wr.ownsRow wz.heap.size 88 32 sv' (pvOnes T E j).length (sumCells (pvOnes T E j))∧wr.heap[qp]?=some (.cells (pfCells ⟨pvFound R key,pvVal R key,pvBits T E j,[]⟩ vv sv').toArray 57 (0,0))∧Keeps [qp] wz wr) (fun iv _=>256 - (intOf iv).toNat)
  case atStart=>exact ⟨0,.slice none 0 0,by omega,rfl,World.ownsRow_nil _ _ _ _,HROW.out,Keeps.refl _ _⟩
  case round =>
   obtain ⟨j,sv',hj,rfl,hsv,hpr,hkr⟩:=hrel
   by_cases hlt:j < 256
   ·obtain ⟨x,hx⟩:∃ x,T[j]?=some x:=⟨_,List.getElem?_eq_getElem (by rw [HWY.out.lenS];exact hlt)⟩
    obtain ⟨y,hy⟩:∃ y,E[j]?=some y:=⟨_,List.getElem?_eq_getElem (by rw [HWY.out.lenE];exact hlt)⟩
    have hx32:x.length=32:=HWY.out.s32 x (List.mem_of_getElem? hx)
    have hy32:y.length=32:=HWY.out.e32 y (List.mem_of_getElem? hy)
    have HIX:=Lib.hid (run_index_sum HWY.out.s32 HWY.out.lenS hlt hx)
    have hqqp:qw≠qp:=by have:=HPLT.out;have:=HQW5.out;have:=HLF.out.2.2.1;omega
    have hrow:=HWY.out.keeps hkr (by simp;exact hqqp)
    have HRE:=Lib.hid (sum_range hrow.empties HWY.out.e32 hy)
    have hqx:=fun w=>run_equalIn_bytes w 9998 Tryz.underlying88 hx32 hy32
    have HSD:=Lib.hid (dg_size_of hx32)
    have HSDY:=Lib.hid (dg_size_of hy32)
    have b0:(0:Int)≤(j:Int):=by omega
    have b1:(j:Int) < ((256:Nat):Int):=by omega
    obtain ⟨g15,hg15⟩:∃ g,g=wr.heap.size:=⟨_,rfl⟩
    obtain ⟨w8,hw8⟩:∃ y,y=(wr.alloc (.cells X 88 (0,0))).setCells g15 0 (x.map B):=⟨_,rfl⟩
    have hst:=dg_run_store (w:=wr.alloc (.cells X 88 (0,0))) (q:=g15) ((heap_new_at hg15).trans (by rw [HX.out])) hx32
    rw [← hw8] at hst
    have b8:Blk w8 g15 88 x:=by rw [hw8];exact dg_store ((heap_new_at hg15).trans (by rw [HX.out])) hx32
    have k8:Keeps [] wr w8:=by rw [hw8];exact ((Keeps.refl _ _).alloc _).setCells (.inr (by omega)) _ _
    have HST:=Lib.hid hst
    have HB8:=Lib.hid (rangeAt_all b8)
    have HR8:=Lib.hid (rangeAt_of_heap HRE.out (k8.block qw (Nat.lt_of_lt_of_le hqwlt hkr.size) (by simp)))
    have HPR8:=Lib.hid ((k8.block qp (lt_of_heap hpr) (by simp)).trans hpr)
    have HSV8:=Lib.hid (ownsRow_keep hsv (fun k hk=>k8.block k (World.ownsRow.lt hsv k hk).2 (by simp)))
    have HK8:=Lib.hid (hkr.trans (G:=[]) k8 (by simp))
    have HG15:=Lib.hid (lt_of_heap b8)
    have hkr8:=hkr
    have HG:=Lib.hid hg15
    have HXY:=Lib.hid (And.intro hx hy)
    have HX32:=Lib.hid (And.intro hx32 hy32)
    have HKR8:=Lib.hid hkr8
    clear hkr8
    clear hx hy hx32 hy32 hrow hkr hw8 hst b8 k8 hg15 HRE hpr hsv hqqp
    by_cases hxy:x=y
    ·have hxb:(x == y)=true:=by rw [hxy];simp
     rw [hxb] at hqx
     have HEQ:=Lib.hid hxy
     clear hxy hxb
     go_upto_region 21 with (first | (refine wl_index rfl 93 (.tmp 108) (.tmp 109) rfl ?_;refine ⟨_,_,HIX.out _,?_⟩;try simp only [zA,zB,zC,zD,zE,zF,zG,zH]) | (refine wl_alloc rfl 88 rfl ?_;refine ⟨_,_,run_alloc _ HXI.out,?_⟩;(try simp only [Value.cells]);rw [← HG.out];try simp only [zA,zB,zC,zD,zE,zF,zG,zH]) | (refine wl_store rfl 88 (.tmp 15) (.tmp 112) rfl ?_;refine ⟨_,HST.out,?_⟩;try simp only [zA,zB,zC,zD,zE,zF,zG,zH]))
     refine wp_region_held_drew (S:=(fun w'=>w'.rangeAt g15 0 (x.map B)∧w'.rangeAt qw (8193+j * 32) (y.map B))) (by kernel_rfl) ?_ (fun hHeld=>?_)
     ·exact ⟨HB8.out,HR8.out⟩
     refine tkb 0 rfl (yieldsIf_load_mid (by rfl) 88 (.tmp 15) rfl g15 0 rfl (x.map B) _ (fun _ h=>h.1) Tryz.underlying88 rfl HSD.out) ?_
     refine tk 1 ?_
     refine tk 2 ?_
     refine tk 3 ?_
     refine tk 4 ?_
     refine tk 5 ?_
     refine tkb 6 rfl (yieldsIf_load_mid (by rfl) 88 (.tmp 118) rfl qw (8193+j * 32) rfl (y.map B) _ (fun _ h=>h.2) Tryz.underlying88 rfl HSDY.out) ?_
     refine tk 7 ?_
     refine wpAnyH_done (by kernel_rfl) ?_ _
     clear hHeld hqx
     go_wp2_with fail
     go_roundw
     case rel =>
      have e1:T.getD j []=E.getD j []:=by rw [List.getD_eq_getElem?_getD,List.getD_eq_getElem?_getD,HXY.out.1,HXY.out.2,HEQ.out]
      refine ⟨j+1,sv',by omega,by go_num,?_,?_,HK8.out.drew⟩
      ·rw [pvOnes,if_pos e1];exact HSV8.out
      ·rw [pvBits,if_pos e1];exact HPR8.out
     case measure=>simp [intOf];omega
    ·have hxb:(x == y)=false:=by simpa using hxy
     rw [hxb] at hqx
     have HNE2:=Lib.hid hxy
     clear hxy hxb
     go_upto_region 21 with (first | (refine wl_index rfl 93 (.tmp 108) (.tmp 109) rfl ?_;refine ⟨_,_,HIX.out _,?_⟩;try simp only [zA,zB,zC,zD,zE,zF,zG,zH]) | (refine wl_alloc rfl 88 rfl ?_;refine ⟨_,_,run_alloc _ HXI.out,?_⟩;(try simp only [Value.cells]);rw [← HG.out];try simp only [zA,zB,zC,zD,zE,zF,zG,zH]) | (refine wl_store rfl 88 (.tmp 15) (.tmp 112) rfl ?_;refine ⟨_,HST.out,?_⟩;try simp only [zA,zB,zC,zD,zE,zF,zG,zH]))
     refine wp_region_held_drew (S:=(fun w'=>w'.rangeAt g15 0 (x.map B)∧w'.rangeAt qw (8193+j * 32) (y.map B))) (by kernel_rfl) ?_ (fun hHeld=>?_)
     ·exact ⟨HB8.out,HR8.out⟩
     refine tkb 0 rfl (yieldsIf_load_mid (by rfl) 88 (.tmp 15) rfl g15 0 rfl (x.map B) _ (fun _ h=>h.1) Tryz.underlying88 rfl HSD.out) ?_
     refine tk 1 ?_
     refine tk 2 ?_
     refine tk 3 ?_
     refine tk 4 ?_
     refine tk 5 ?_
     refine tkb 6 rfl (yieldsIf_load_mid (by rfl) 88 (.tmp 118) rfl qw (8193+j * 32) rfl (y.map B) _ (fun _ h=>h.2) Tryz.underlying88 rfl HSDY.out) ?_
     refine tk 7 ?_
     refine wpAnyH_done (by kernel_rfl) ?_ _
     clear hHeld hqx
     obtain ⟨bb,hbb⟩:∃ bb,bb=pvBits T E j:=⟨_,rfl⟩
     have hbl:bb.length=32:=by rw [hbb];exact pvBits_length _ _ _
     obtain ⟨q8,hq8⟩:∃ q,q=j / 8:=⟨_,rfl⟩
     obtain ⟨r8,hr8⟩:∃ r,r=j % 8:=⟨_,rfl⟩
     have e1:(j:Int) / 8=(q8:Int):=by omega
     have q80:(0:Int)≤(q8:Int):=by omega
     have q81:(q8:Int) < 32:=by omega
     have e2:bits BinOp.and IntKind.i64 (j:Int) 7=(r8:Int):=by rw [hr8];exact and7_i64 j (by omega)
     have r80:(0:Int)≤(r8:Int):=by omega
     have r81:(r8:Int) < 8:=by omega
     obtain ⟨bv,hbv⟩:∃ v,v=(bb.getD q8 0).toNat:=⟨_,rfl⟩
     have hpr8:=HPR8.out
     rw [← hbb] at hpr8
     have hcell:w8.drew.cell? ⟨qp,2+q8,none⟩=some (.int .u8 bv):=by
      rw [hbv]
      rw [List.getD_eq_getElem?_getD,List.getElem?_eq_getElem (show q8 < bb.length by rw [hbl];omega)]
      exact pf_bit_cell (w:=w8.drew) hpr8 hbl (show q8 < 32 by omega) (List.getElem?_eq_getElem (show q8 < bb.length by rw [hbl];omega))
     have hfr:=frozen_of_row w8 qp (2+q8) _ _ hpr8
     have hbv2:bv < 256:=by rw [hbv];exact UInt8.toNat_lt _
     obtain ⟨p8,hp8⟩:∃ p,p=2 ^ r8:=⟨_,rfl⟩
     obtain ⟨nb,hnb⟩:∃ p,p=bv ||| 2 ^ r8:=⟨_,rfl⟩
     have e3:IntKind.u8.wrap ((2:Int) ^ r8)=(p8:Int):=by rw [hp8];exact pow_u8 (by omega)
     have e4:bits BinOp.or IntKind.u8 (bv:Int) (p8:Int)=(nb:Int):=by rw [hp8,hnb];exact or_pow_u8 hbv2 (by omega)
     have HNB:=Lib.hid (show (UInt8.ofNat bv ||| UInt8.ofNat (2 ^ r8)).toNat=nb by rw [hnb];exact or_pow_byte hbv2 (by omega))
     have HBB:=Lib.hid (And.intro hbb hbl)
     have HQ8:=Lib.hid (And.intro hq8 (And.intro hr8 hbv))
     have HR8B:=Lib.hid (show r8 < 8 by omega)
     have HPRB:=Lib.hid hpr8
     clear hbb hbl hq8 hr8 hbv hpr8 hbv2 hp8 hnb
     go_upto_region 22 with fail
     refine rl_start (fun w'=>w'.cell? ⟨qp,2+q8,none⟩=some (.int .u8 bv)) 11 (by kernel_rfl) ?_ (fun hHeld=>?_)
     ·exact hcell
     refine rk 0 ?_
     refine rk 1 ?_
     refine rk 2 ?_
     refine rk 3 ?_
     refine rk 4 ?_
     refine rk 5 ?_
     refine rk 6 ?_
     refine rk 7 ?_
     refine rk 8 ?_
     refine rl_act (i:=9) (by kernel_rfl) rfl (fun K hK=>?_)
     go_simp
     refine hK.out _ _ ?_ (fun hHeld=>?_)
     ·exact hcell
     clear hK K
     try simp only [zA,zB,zC,zD,zE,zF,zG,zH]
     refine rk 10 ?_
     refine rl_last (by kernel_rfl) (by kernel_rfl) rfl (fun K hK=>?_)
     go_simp
     refine hK.out _ _ ?_
     clear hK K
     try simp only [zA,zB,zC,zD,zE,zF,zG,zH]
     clear hHeld hcell hfr
     obtain ⟨w9,hw9⟩:∃ z,z=(w8.setCell ⟨qp,2+q8,none⟩ (.int .u8 nb)).drew.drew:=⟨_,rfl⟩
     rw [← hw9]
     obtain ⟨b9,hb9⟩:∃ z,z=bb.set q8 (UInt8.ofNat bv ||| UInt8.ofNat (2 ^ r8)):=⟨_,rfl⟩
     have hb9l:b9.length=32:=by rw [hb9,List.length_set];exact HBB.out.2
     have hp9:w9.heap[qp]?=some (.cells (pfCells ⟨pvFound R key,pvVal R key,b9,[]⟩ vv sv').toArray 57 (0,0)):=by
      have h:=heap_setCell_same w8 qp (2+q8) _ _ (.int .u8 nb) HPRB.out
      have eB:(Value.int .u8 (nb:Int))=B (UInt8.ofNat bv ||| UInt8.ofNat (2 ^ r8)):=by show _=Value.int .u8 _;rw [HNB.out]
      rw [eB,pf_set_bit _ _ _ (by rw [HBB.out.2];omega),← hb9,← eB] at h
      rw [hw9]
      exact h
     have k9:Keeps [qp] w8 w9:=by rw [hw9];exact (((Keeps.refl _ _).setCell (.inl (by simp)) _).drew).drew
     have hqpw:qp < wz.heap.size:=by have:=HKZ.out.size;have:=lt_of_heap HBP.out;omega
     have hwzr:wz.heap.size≤w8.heap.size:=HK8.out.size
     have hg15:qp < g15:=by have:=HG.out;have:=HKR8.out.size;omega
     have hsv9:w9.ownsRow wz.heap.size 88 32 sv' (pvOnes T E j).length (sumCells (pvOnes T E j)):=ownsRow_keep HSV8.out (fun k hk=>k9.block k (World.ownsRow.lt HSV8.out k hk).2 (by simp;have:=(World.ownsRow.lt HSV8.out k hk).1;omega))
     have hr9:w9.rangeAt g15 0 (x.map B):=rangeAt_of_heap HB8.out (k9.block g15 HG15.out (by simp;omega))
     have q34:=(pf_cells hp9 hb9l).2.2
     have hbz:wz.heap.size≤w9.heap.size:=Nat.le_trans hwzr k9.size
     have HP9:=Lib.hid hp9
     have HB9:=Lib.hid (And.intro hb9 hb9l)
     have HSV9:=Lib.hid hsv9
     have HR9:=Lib.hid hr9
     have HK9:=Lib.hid (HK8.out.trans (G:=[qp]) k9 (fun k hk=>.inl hk))
     have HX32b:=Lib.hid HX32.out.1
     have hon:(pvOnes T E j).length+1≤1073741824:=by have:=pvOnes_len T E j;omega
     clear hw9 hb9 hb9l hp9 k9 hsv9 hr9 HPR8 HB8 HSV8
     go_wp2_with (first
      | (refine wpList_load_mid rfl 88 (.tmp 15) rfl g15 0 (by rfl) (x.map B) _ HR9.out Tryz.underlying88 rfl HSD.out ?_;try simp only [zA,zB,zC,zD,zE,zF,zG,zH])
      | (refine wl_buildSlice rfl 55 1 #[(0,.tmp 134)] #[(0,.agg (x.map B).toArray)] rfl (by simp [Act.eval]) ?_;refine ⟨_,_,run_buildSlice_one _ Tryz.underlying55 info_digest (cs:=(x.map B).toArray) (by simpa using HX32b.out) (by omega) (by omega),?_⟩;try simp only [zA,zB,zC,zD,zE,zF,zG,zH])
      | (refine wl_appD (w0:=w9) rfl (.tmp 133) (.tmp 135) rfl wz.heap.size sv' (pvOnes T E j).length (pvOnes T E j) (by rfl) HSV9.out x HX32b.out (by rfl) (by rfl) hon hbz ?_))
     intro v10 w10 ho10 hk10 hb10
     obtain ⟨a10,c10,rfl⟩:=own_form ho10
     try simp only [zA,zB,zC,zD,zE,zF,zG,zH]
     have hkw:=hk10 [qp] wz HK9.out (Nat.le_refl _)
     have hp10:w10.heap[qp]?=some (.cells (pfCells ⟨pvFound R key,pvVal R key,b9,[]⟩ vv sv').toArray 57 (0,0)):=by
      rw [hb10 qp (lt_of_heap HP9.out) (fun e=>by have:=(World.ownsRow.lt HSV9.out qp e).1;omega)]
      exact HP9.out
     have q34n:=(pf_cells hp10 HB9.out.2).2.2
     have f34n:=frozen_of_row w10 qp 34 _ _ hp10
     have HP10:=Lib.hid hp10
     have HO10:=Lib.hid ho10
     have HKW:=Lib.hid hkw
     clear q34 hp10 ho10 hk10 hkw hb10
     go_wp2_with fail
     go_roundw
     case rel =>
      have ne1:¬ T.getD j []=E.getD j []:=by
       rw [List.getD_eq_getElem?_getD,List.getD_eq_getElem?_getD,HXY.out.1,HXY.out.2]
       exact HNE2.out
      have ex:T.getD j []=x:=by rw [List.getD_eq_getElem?_getD,HXY.out.1];rfl
      have eO:pvOnes T E (j+1)=pvOnes T E j++[x]:=by rw [pvOnes,if_neg ne1,ex]
      have eB:pvBits T E (j+1)=b9:=by
       rw [pvBits,if_neg ne1,HB9.out.1,HBB.out.1,HQ8.out.2.2,HQ8.out.1,HQ8.out.2.1,HBB.out.1]
      refine ⟨j+1,.slice a10 ((pvOnes T E j).length+1) c10,by omega,by go_num,?_,?_,HKW.out.setCell (.inl (by simp)) _⟩
      ·rw [eO,List.length_append]
       exact ownsRow_keep HO10.out (fun k hk=>Below.heap_setCell _ _ _ _ (by have:=(World.ownsRow.lt HO10.out k hk).1;simp;omega))
      ·rw [eB]
       have h:=heap_setCell_same w10 qp 34 _ _ (.slice a10 ((pvOnes T E j).length+1) c10) HP10.out
       rw [pf_set34 (p:=⟨pvFound R key,pvVal R key,b9,[]⟩) HB9.out.2] at h
       exact h
     case measure=>simp [intOf];omega
   ·have e:j=256:=by omega
    subst e
    obtain ⟨a3,c3,rfl⟩:=own_slice_e hsv
    obtain ⟨av,cv,rfl⟩:=ownB_slice HOWN.out
    obtain ⟨RR,hRR⟩:∃ RR,RR=pfCells ⟨pvFound R key,pvVal R key,pvBits T E 256,[]⟩ (.slice av (pvVal R key).length cv) (.slice a3 (pvOnes T E 256).length c3):=⟨_,rfl⟩
    have hRl:RR.length=35:=by rw [hRR];exact pf_length (pvBits_length _ _ _) _ _
    have hR1:∀ v∈RR,v.oneCell'=true:=by rw [hRR];exact pf_ones
    rw [← hRR] at hpr
    have hqq:q≠c∧q≠qw∧q≠qp∧q < w5.heap.size:=by
     have a1:=HC.out
     have a2:=HQ.out
     have a3:=HQW.out
     have a4:=lt_of_heap HB1.out
     have a5:=HPLT.out
     have a6:=HLF.out.2.1
     have a7:=HLF.out.2.2.1
     omega
    have hbq:=(hkr.block q (by have:=HK57.out.size;have:=HKZ.out.size;omega) (by simp;exact hqq.2.2.1)).trans ((HKZ.out.block q (by have:=HK57.out.size;omega) (by simp;exact ⟨hqq.2.1,hqq.2.2.1⟩)).trans ((HK57.out.block q hqq.2.2.2 (by simp;exact ⟨hqq.1,hqq.2.1⟩)).trans ((HK15.out.block q (lt_of_heap HB1.out) (by simp)).trans HB1.out)))
    have HPR:=Lib.hid (rangeAt_all hpr)
    have HBQ:=Lib.hid hbq
    have HRR:=Lib.hid (And.intro hRR (And.intro hRl hR1))
    have HSR:=Lib.hid (show (Tryz.prog.info? 57).map (·.size)=some RR.length by rw [hRl];exact size_proof)
    have HKR:=Lib.hid hkr
    have HSV:=Lib.hid hsv
    have HQQ:=Lib.hid hqq
    clear hRR hRl hR1 hpr hbq hkr hsv hqq hlt hj
    go_wp2_with (first | (refine wpList_load_mid rfl 57 (.tmp 12) rfl qp 0 (by rfl) RR _ HPR.out Tryz.underlying57 rfl HSR.out ?_;try simp only [zA,zB,zC,zD,zE,zF,zG,zH]) | (refine wl_store rfl 57 (.tmp 6) (.tmp 139) rfl ?_;refine ⟨_,run_store_pf HBQ.out HZ.out.1 HRR.out.2.1 HRR.out.2.2,?_⟩;try simp only [zA,zB,zC,zD,zE,zF,zG,zH]))
    refine bodyPost_ret (results_row2 (cs:=RR) rfl rfl rfl (rangeAt_all (store_all HBQ.out (by rw [HZ.out.1,HRR.out.2.1]))) Tryz.underlying57 rfl HSR.out) rfl ?_
    obtain ⟨eqn,eqE⟩:=HNE.out
    have z1:=HK1.out.size
    have z5:=HK15.out.size
    have z7:=HK57.out.size
    have zz:=HKZ.out.size
    have zr:=HKR.out.size
    have zp:=HPLT.out
    have zw:=HQW.out
    have zl:=HLF.out.2.2.1
    have zq:=HQ.out
    have kf:Keeps [q] wr (wr.setCells q 0 RR):=(Keeps.refl _ _).setCells (.inl (by simp)) _ _
    refine ⟨.slice av (pvVal R key).length cv,.slice a3 (pvOnes T E 256).length c3,?_,?_,?_,?_,?_,⟨x6,?_⟩,?_⟩
    ·rw [HRR.out.1,← eqn]
     unfold pvPf
     rw [← eqE,← HT.out]
     rfl
    ·have h1:OwnB wr (.slice av (pvVal R key).length cv) (pvVal R key):=ownsRow_keep HOWN.out (fun k hk=>HKR.out.block k (World.ownsRow.lt HOWN.out k hk).2 (by simp;exact (HVB.out k hk).2))
     exact ownsRow_keep h1 (fun k hk=>kf.block k (World.ownsRow.lt h1 k hk).2 (by simp;have:=(HVB.out k hk).1;have:=HQQ.out;omega))
    ·rw [← eqn]
     unfold pvPf
     rw [← eqE,← HT.out]
     exact ownS_sums (ownsRow_base (ownsRow_keep HSV.out (fun k hk=>kf.block k (World.ownsRow.lt HSV.out k hk).2 (by simp;have:=(World.ownsRow.lt HSV.out k hk).1;have:=HQQ.out;omega))))
    ·exact fun k hk=>by have:=(HVB.out k hk).1;omega
    ·exact fun k hk=>by have:=(World.ownsRow.lt HSV.out k hk).1;omega
    ·refine ((HS7.out.keeps HKZ.out (fun k hk e=>?_)).keeps HKR.out (fun k hk e=>?_)).keeps kf (fun k hk e=>?_)
     ·have:=HSLT.out k hk;simp at e;omega
     ·have:=HSLT.out k hk;simp at e;omega
     ·have:=HSLT.out k hk;simp at e;omega
    ·have i1:∀ k,k∈[c,qw]→k∈[c]∨w.heap.size≤k:=fun k hk=>by
      simp at hk
      rcases hk with rfl | rfl
      ·exact .inl (by simp)
      ·exact .inr (by omega)
     have i2:∀ k,k∈[qw,qp]→k∈[c]∨w.heap.size≤k:=fun k hk=>by
      simp at hk
      rcases hk with rfl | rfl
      ·exact .inr (by omega)
      ·exact .inr (by omega)
     have a1:=((HK1.out.trans (G:=[]) HK15.out (by simp)).mono (G:=[c]) (by simp)).trans (G:=[c,qw]) HK57.out i1
     have a2:=(a1.trans (G:=[qw,qp]) HKZ.out i2).trans (G:=[qp]) HKR.out (fun k hk=>i2 k (by simp at hk;simp [hk]))
     exact a2.trans (G:=[q]) kf (fun k hk=>.inr (by simp at hk;omega))
open Go.RowKit
set_option maxRecDepth 100000 in
set_option maxHeartbeats 3200000 in
theorem prove_low {w:World} {s b bf c bm:Nat} {S:St} {sv:Value} {d:D} {F:List Nat} (h:StoreIn w s b S bf c bm sv) (hd:DiskAt w b d F) (hl:liveE d S.f=0) {root:Int} (key:List UInt8) (q0:¬ root=0) (q1:root < 2) :
  Calls Tryz.prog 12 #[.pointer (some ⟨s,0,none⟩),.int .i64 root,.agg (key.map B).toArray] w fun r w'=>r=refusal 41∧Keeps [] w w':=by
 obtain ⟨Z,⟨hZ,hZi,hZ1⟩,hZb⟩:∃ Z:List Value,(Z.length=35∧(Tryz.prog.info? 57).map (fun i=>(i.zero,i.size,i.bytes))=some (some (.agg Z.toArray),35,88)∧(∀ v∈Z,v.oneCell'=true))∧Z=pfZC:=⟨_,pfZC_spec,rfl⟩
 have hbld:∀ w,(Instr.build 57 #[]).run Tryz.prog w=.ok (.agg Z.toArray) w:=fun w=>by rw [hZb];exact run_build_pfZ w
 unfold refusal
 rw [← hZb]
 obtain ⟨q,hq0⟩:∃ q,q=(w.alloc (.cells (key.map B).toArray 60 (0,0))).heap.size:=⟨_,rfl⟩
 have hq:q=w.heap.size+1:=by rw [hq0];simp
 have HQ0:=Lib.hid hq0
 clear hq0
 obtain ⟨w1,hw1⟩:∃ x,x=(w.alloc (.cells (key.map B).toArray 60 (0,0))).alloc (.cells Z.toArray 57 (0,0)):=⟨_,rfl⟩
 have k1:Keeps [] w w1:=by rw [hw1];exact ((Keeps.refl _ _).alloc _).alloc _
 have b1:w1.heap[q]?=some (.cells Z.toArray 57 (0,0)):=by rw [hw1];exact heap_new_at (by simp;omega)
 have CL:=sLive_any (h.keeps k1 (by simp)) (hd.keeps k1 (by simp))
 rw [hl] at CL
 have CL':=Lib.hid CL
 have HBL:=Lib.hid hbld
 have HZI:=Lib.hid hZi
 have HW1:=Lib.hid hw1
 have HQ:=Lib.hid hq
 have HK1:=Lib.hid k1
 have HB1:=Lib.hid b1
 have HZ:=Lib.hid (And.intro hZ hZ1)
 have HSZ:=Lib.hid (show (Tryz.prog.info? 57).map (·.size)=some Z.length by rw [hZ];exact size_proof)
 clear hbld hZi hw1 hq k1 b1 hZ hZ1 hZb CL hd hl h
 go_enter Tryz.func12,Tryz.ntmps12
 go_upto_region 1 with (first | (refine wl_alloc rfl 57 rfl ?_;refine ⟨_,_,run_alloc _ HZI.out,?_⟩;try simp only [zA,zB,zC,zD,zE,zF,zG,zH]))
 try simp only [Value.cells]
 rw [← HW1.out,← HQ0.out]
 go_upto_region 4 with (first | (go_at_call 20;refine CL'.out.mono ?_;rintro r w2 ⟨rfl,hk2⟩))
 have hb2:=(hk2.block q (lt_of_heap HB1.out) (by simp)).trans HB1.out
 have HB2:=Lib.hid hb2
 have HK2:=Lib.hid (HK1.out.trans (G:=[]) hk2 (by simp))
 clear hk2 hb2
 go_wp2_with (first | (refine wl_build rfl 57 #[] #[] rfl (by simp [Act.eval]) ?_;refine ⟨_,_,HBL.out _,?_⟩;try simp only [zA,zB,zC,zD,zE,zF,zG,zH]) | (refine wl_store rfl 57 (.tmp 6) (.tmp 37) rfl ?_;refine ⟨_,run_store_pf HB2.out HZ.out.1 HZ.out.1 HZ.out.2,?_⟩;try simp only [zA,zB,zC,zD,zE,zF,zG,zH]))
 refine bodyPost_ret (results_row2 (cs:=Z) rfl rfl rfl (rangeAt_all (store_all HB2.out rfl)) Tryz.underlying57 rfl HSZ.out) rfl ⟨rfl,?_⟩
 exact HK2.out.setCells (.inr (by rw [HQ.out];omega)) _ _
set_option maxRecDepth 100000 in
set_option maxHeartbeats 3200000 in
theorem prove_high {w:World} {s b bf c bm:Nat} {S:St} {sv:Value} {d:D} {F:List Nat} (h:StoreIn w s b S bf c bm sv) (hd:DiskAt w b d F) (hl:liveE d S.f=0) {root:Int} (key:List UInt8) (q0:¬ root=0) (q1:¬ root < 2) {N:Int} (hN:N=S.f.sup.mark+S.C.kept.length) (q2:N≤root) :
  Calls Tryz.prog 12 #[.pointer (some ⟨s,0,none⟩),.int .i64 root,.agg (key.map B).toArray] w fun r w'=>r=refusal 41∧Keeps [] w w':=by
 obtain ⟨Z,⟨hZ,hZi,hZ1⟩,hZb⟩:∃ Z:List Value,(Z.length=35∧(Tryz.prog.info? 57).map (fun i=>(i.zero,i.size,i.bytes))=some (some (.agg Z.toArray),35,88)∧(∀ v∈Z,v.oneCell'=true))∧Z=pfZC:=⟨_,pfZC_spec,rfl⟩
 have hbld:∀ w,(Instr.build 57 #[]).run Tryz.prog w=.ok (.agg Z.toArray) w:=fun w=>by rw [hZb];exact run_build_pfZ w
 unfold refusal
 rw [← hZb]
 obtain ⟨q,hq0⟩:∃ q,q=(w.alloc (.cells (key.map B).toArray 60 (0,0))).heap.size:=⟨_,rfl⟩
 have hq:q=w.heap.size+1:=by rw [hq0];simp
 have HQ0:=Lib.hid hq0
 clear hq0
 obtain ⟨w1,hw1⟩:∃ x,x=(w.alloc (.cells (key.map B).toArray 60 (0,0))).alloc (.cells Z.toArray 57 (0,0)):=⟨_,rfl⟩
 have k1:Keeps [] w w1:=by rw [hw1];exact ((Keeps.refl _ _).alloc _).alloc _
 have b1:w1.heap[q]?=some (.cells Z.toArray 57 (0,0)):=by rw [hw1];exact heap_new_at (by simp;omega)
 have hnext:=fun (wx:World) (hk:Keeps [] w1 wx)=>sNext_any ((h.keeps k1 (by simp)).keeps hk (by simp))
 rw [← hN] at hnext
 have HNX:=Lib.hid hnext
 clear hnext hN
 have CL:=sLive_any (h.keeps k1 (by simp)) (hd.keeps k1 (by simp))
 rw [hl] at CL
 have CL':=Lib.hid CL
 have HBL:=Lib.hid hbld
 have HZI:=Lib.hid hZi
 have HW1:=Lib.hid hw1
 have HQ:=Lib.hid hq
 have HK1:=Lib.hid k1
 have HB1:=Lib.hid b1
 have HZ:=Lib.hid (And.intro hZ hZ1)
 have HSZ:=Lib.hid (show (Tryz.prog.info? 57).map (·.size)=some Z.length by rw [hZ];exact size_proof)
 clear hbld hZi hw1 hq k1 b1 hZ hZ1 hZb CL hd hl h
 go_enter Tryz.func12,Tryz.ntmps12
 go_upto_region 1 with (first | (refine wl_alloc rfl 57 rfl ?_;refine ⟨_,_,run_alloc _ HZI.out,?_⟩;try simp only [zA,zB,zC,zD,zE,zF,zG,zH]))
 try simp only [Value.cells]
 rw [← HW1.out,← HQ0.out]
 go_upto_region 4 with (first | (go_at_call 20;refine CL'.out.mono ?_;rintro r w2 ⟨rfl,hk2⟩))
 go_upto_region 6 with fail
 go_upto_region 7 with (first | (go_at_call 15;refine (HNX.out _ hk2).mono ?_;rintro r w3 ⟨rfl,hk3⟩))
 have hb2:=((hk2.trans (G:=[]) hk3 (by simp)).block q (lt_of_heap HB1.out) (by simp)).trans HB1.out
 have HB2:=Lib.hid hb2
 have HK2:=Lib.hid (HK1.out.trans (G:=[]) (hk2.trans (G:=[]) hk3 (by simp)) (by simp))
 clear hk2 hk3 hb2
 go_wp2_with (first | (refine wl_build rfl 57 #[] #[] rfl (by simp [Act.eval]) ?_;refine ⟨_,_,HBL.out _,?_⟩;try simp only [zA,zB,zC,zD,zE,zF,zG,zH]) | (refine wl_store rfl 57 (.tmp 6) (.tmp 37) rfl ?_;refine ⟨_,run_store_pf HB2.out HZ.out.1 HZ.out.1 HZ.out.2,?_⟩;try simp only [zA,zB,zC,zD,zE,zF,zG,zH]))
 refine bodyPost_ret (results_row2 (cs:=Z) rfl rfl rfl (rangeAt_all (store_all HB2.out rfl)) Tryz.underlying57 rfl HSZ.out) rfl ⟨rfl,?_⟩
 exact HK2.out.setCells (.inr (by rw [HQ.out];omega)) _ _
open Go.RowKit
theorem add_pow_byte {b r:Nat} (hr:r < 8) (hb:b < 2 ^ r):b ||| 2 ^ r=b+2 ^ r:=by
 have:=Nat.two_pow_add_eq_or_of_lt (i:=r) (b:=b) hb 1
 rw [Nat.mul_one] at this
 rw [Nat.or_comm,← this,Nat.add_comm]
theorem proof_not_dig:¬ (57:TypeId)=88:=by decide
def setBits (bits:List UInt8) (h:Nat) (d e:List UInt8):List UInt8:=if d=e then bits else bits.set (h / 8) (UInt8.ofNat (bits.getD (h / 8) 0).toNat ||| UInt8.ofNat (2 ^ (h % 8)))
def setOnes (ones:List (List UInt8)) (d e:List UInt8):List (List UInt8):=if d=e then ones else ones++[d]
set_option maxRecDepth 100000 in
set_option maxHeartbeats 6400000 in
theorem rPSet_any {w:World} {f:Bool} {vb bits:List UInt8} {av:Option Addr} {nv cv:Nat} {sv:Value} {ones:List (List UInt8)} {base ge oe ce k h:Nat} {d:List UInt8} (hbits:bits.length=32) (hes:w.rangeAt ge oe (sumCells (emptiesL k 257))) (hge:ge < w.heap.size) (hk:k≤32) (hh:h < 256) (hd:d.length=32) (hown:w.ownsRow base 88 32 sv ones.length (sumCells ones)) (hbase:base≤w.heap.size) (hlen:ones.length≤300) (hlow:(bits.getD (h / 8) 0).toNat < 2 ^ (h % 8)) :
  Calls Tryz.prog 37 #[.agg (pfCells ⟨f,vb,bits,[]⟩ (.slice av nv cv) sv).toArray,.slice (some ⟨ge,oe,none⟩) 257 ce,.int .i64 h,.agg (d.map B).toArray] w fun e w'=>∃ sv',e=.returned (.agg (pfCells ⟨f,vb,setBits bits h d (emptyD k h),[]⟩ (.slice av nv cv) sv').toArray)∧w'.ownsRow base 88 32 sv' (setOnes ones d (emptyD k h)).length (sumCells (setOnes ones d (emptyD k h)))∧(∀ (F:List Nat) (wa:World),Keeps F wa w→wa.heap.size≤base→Keeps F wa w')∧(∀ j,j < w.heap.size→sv.ownBlock≠some j→w'.heap[j]?=w.heap[j]?)∧w.heap.size≤w'.heap.size:=by
 obtain ⟨sa,sc,rfl⟩:=own_form hown
 obtain ⟨Z,hZ,hZi,hZ1⟩:∃ Z:List Value,Z.length=35∧(Tryz.prog.info? 57).map (fun i=>(i.zero,i.size,i.bytes))=some (some (.agg Z.toArray),35,88)∧(∀ v∈Z,v.oneCell'=true):=⟨_,pfZC_spec⟩
 obtain ⟨E,hE⟩:∃ E,E=emptyD k h:=⟨_,rfl⟩
 have hEl:E.length=32:=by rw [hE];exact emptyD_length hk h
 have hrE:=sum_range (x:=E) hes (emptiesL_32 hk 257) (k:=h) (by rw [hE];unfold emptiesL;rw [List.getElem?_map,List.getElem?_range (by omega)];rfl)
 rw [← hE]
 obtain ⟨C,hC⟩:∃ C,C=pfCells ⟨f,vb,bits,[]⟩ (.slice av nv cv) (.slice sa ones.length sc):=⟨_,rfl⟩
 have hCl:C.length=35:=by rw [hC];exact pf_length hbits _ _
 obtain ⟨g4,hg4⟩:∃ x,x=w.heap.size:=⟨_,rfl⟩
 obtain ⟨wa,hwa⟩:∃ x,x=w.alloc (.cells C.toArray 57 (0,0)):=⟨_,rfl⟩
 obtain ⟨g7,hg7⟩:∃ x,x=w.heap.size+1:=⟨_,rfl⟩
 have eg7:g7=wa.heap.size:=by rw [hwa,hg7];simp
 obtain ⟨wb,hwb⟩:∃ x,x=wa.alloc (.cells (d.map B).toArray 88 (0,0)):=⟨_,rfl⟩
 obtain ⟨g8,hg8⟩:∃ x,x=wb.heap.size:=⟨_,rfl⟩
 have e8:g8=w.heap.size+2:=by rw [hg8,hwb,hwa];simp
 obtain ⟨w1,hw1⟩:∃ x,x=wb.alloc (.cells Z.toArray 57 (0,0)):=⟨_,rfl⟩
 have k1:Keeps [] w w1:=by rw [hw1,hwb,hwa];exact (((Keeps.refl _ _).alloc _).alloc _).alloc _
 have b4:w1.heap[g4]?=some (.cells C.toArray 57 (0,0)):=by rw [hw1];exact (heap_old_at (by rw [← hg8];omega)).trans (by rw [hwb];exact (heap_old_at (by rw [← eg7];omega)).trans (by rw [hwa];exact heap_new_at hg4))
 have b7:Blk w1 g7 88 d:=by rw [hw1];exact (heap_old_at (by rw [← hg8];omega)).trans (by rw [hwb];exact heap_new_at eg7)
 have b8:w1.heap[g8]?=some (.cells Z.toArray 57 (0,0)):=by rw [hw1];exact heap_new_at hg8
 have hrE1:=rangeAt_of_heap hrE (k1.block ge hge (by simp))
 have hqx:=fun w=>run_equalIn_bytes w 9998 Tryz.underlying88 hd hEl
 have h0:(0:Int)≤(h:Int):=by omega
 have h1:(h:Int) < ((257:Nat):Int):=by omega
 have h1':(h:Int) < 257:=by omega
 have HZ:=Lib.hid (And.intro hZ hZ1)
 have HZI:=Lib.hid hZi
 have HC:=Lib.hid (And.intro hC hCl)
 have HWA:=Lib.hid hwa
 have HWB:=Lib.hid hwb
 have HW1:=Lib.hid hw1
 have HG4:=Lib.hid hg4
 have HG7:=Lib.hid hg7
 have HG8:=Lib.hid hg8
 have HE8:=Lib.hid e8
 have HK1:=Lib.hid k1
 have HB4:=Lib.hid b4
 have HB7:=Lib.hid b7
 have HB8:=Lib.hid b8
 have HRE:=Lib.hid hrE1
 have HSD:=Lib.hid (dg_size_of hd)
 have HSE:=Lib.hid (dg_size_of hEl)
 have HOWN:=Lib.hid hown
 have HDL:=Lib.hid (And.intro hd hEl)
 have HBT:=Lib.hid (And.intro hbits hlow)
 have HSC:=Lib.hid (show (Tryz.prog.info? 57).map (·.size)=some C.length by rw [hCl];exact size_proof)
 clear hZ hZi hZ1 hE hEl hrE hC hCl hwa hwb hw1 hg4 hg7 eg7 hg8 e8 k1 b4 b7 b8 hrE1 hown hes hge hk hd hbits hlow
 by_cases hde:d=E
 ·have hb:(d == E)=true:=by rw [hde];simp
  rw [hb] at hqx
  have HDE:=Lib.hid hde
  clear hde hb
  go_enter Tryz.func37,Tryz.ntmps37
  go_upto_region 1 with (first | (refine wl_alloc rfl 57 rfl ?_;refine ⟨_,_,run_alloc _ HZI.out,?_⟩;try simp only [zA,zB,zC,zD,zE,zF,zG,zH]))
  try simp only [Value.cells]
  rw [← HC.out.1,← HWA.out,← HWB.out,← HW1.out,← HG8.out,← HG7.out,← HG4.out]
  refine wp_region_held_drew (S:=(fun w'=>w'.rangeAt g7 0 (d.map B)∧w'.rangeAt ge (oe+h * 32) (E.map B))) (by kernel_rfl) ?_ (fun hHeld=>?_)
  ·exact ⟨rangeAt_all HB7.out,HRE.out⟩
  refine tkb 0 rfl (yieldsIf_load_mid (by rfl) 88 (.tmp 7) rfl g7 0 rfl (d.map B) _ (fun _ h=>h.1) Tryz.underlying88 rfl HSD.out) ?_
  refine tk 1 ?_
  refine tk 2 ?_
  refine tk 3 ?_
  refine tkb 4 rfl (yieldsIf_load_mid (by rfl) 88 (.tmp 14) rfl ge (oe+h * 32) rfl (E.map B) _ (fun _ h=>h.2) Tryz.underlying88 rfl HSE.out) ?_
  refine tk 5 ?_
  refine wpAnyH_done (by kernel_rfl) ?_ _
  clear hHeld hqx
  have HR4:=Lib.hid (show w1.drew.rangeAt g4 0 C from rangeAt_all HB4.out)
  have HB8d:=Lib.hid (show w1.drew.heap[g8]?=some (.cells Z.toArray 57 (0,0)) from HB8.out)
  have hC1:∀ v∈C,v.oneCell'=true:=by rw [HC.out.1];exact pf_ones
  have HC1:=Lib.hid hC1
  clear hC1
  go_wp2_with (first | (refine wpList_load_mid rfl 57 (.tmp 4) rfl g4 0 (by rfl) C _ HR4.out Tryz.underlying57 rfl HSC.out ?_;try simp only [zA,zB,zC,zD,zE,zF,zG,zH]) | (refine wl_store rfl 57 (.tmp 8) (.tmp 17) rfl ?_;refine ⟨_,run_store_pf HB8d.out HZ.out.1 HC.out.2 HC1.out,?_⟩;try simp only [zA,zB,zC,zD,zE,zF,zG,zH]))
  refine bodyPost_ret (v:=.agg C.toArray) (results_pf (b:=g8) rfl rfl (rangeAt_all (store_all HB8d.out (by rw [HZ.out.1,HC.out.2]))) HC.out.2) rfl ?_
  have e1:setBits bits h d E=bits:=by unfold setBits;rw [if_pos HDE.out]
  have e2:setOnes ones d E=ones:=by unfold setOnes;rw [if_pos HDE.out]
  have k8:Keeps [] w (w1.drew.setCells g8 0 C):=(HK1.out.drew).setCells (.inr (by have:=HE8.out;omega)) _ _
  rw [e1,e2]
  refine ⟨.slice sa ones.length sc,by rw [HC.out.1],ownsRow_keep HOWN.out (fun j hj=>k8.block j (World.ownsRow.lt HOWN.out j hj).2 (by simp)),fun F wx hx hb=>hx.trans (G:=[]) k8 (by simp),fun j hj _=>k8.block j hj (by simp),k8.size⟩
 ·have hb:(d == E)=false:=by simpa using hde
  rw [hb] at hqx
  have HDE:=Lib.hid hde
  clear hde hb
  go_enter Tryz.func37,Tryz.ntmps37
  go_upto_region 1 with (first | (refine wl_alloc rfl 57 rfl ?_;refine ⟨_,_,run_alloc _ HZI.out,?_⟩;try simp only [zA,zB,zC,zD,zE,zF,zG,zH]))
  try simp only [Value.cells]
  rw [← HC.out.1,← HWA.out,← HWB.out,← HW1.out,← HG8.out,← HG7.out,← HG4.out]
  refine wp_region_held_drew (S:=(fun w'=>w'.rangeAt g7 0 (d.map B)∧w'.rangeAt ge (oe+h * 32) (E.map B))) (by kernel_rfl) ?_ (fun hHeld=>?_)
  ·exact ⟨rangeAt_all HB7.out,HRE.out⟩
  refine tkb 0 rfl (yieldsIf_load_mid (by rfl) 88 (.tmp 7) rfl g7 0 rfl (d.map B) _ (fun _ h=>h.1) Tryz.underlying88 rfl HSD.out) ?_
  refine tk 1 ?_
  refine tk 2 ?_
  refine tk 3 ?_
  refine tkb 4 rfl (yieldsIf_load_mid (by rfl) 88 (.tmp 14) rfl ge (oe+h * 32) rfl (E.map B) _ (fun _ h=>h.2) Tryz.underlying88 rfl HSE.out) ?_
  refine tk 5 ?_
  refine wpAnyH_done (by kernel_rfl) ?_ _
  clear hHeld hqx
  obtain ⟨wd,hwd⟩:∃ x,x=w1.drew:=⟨_,rfl⟩
  rw [← hwd]
  have kd:Keeps [] w1 wd:=by rw [hwd];exact (Keeps.refl _ _).drew
  obtain ⟨r8,hr8⟩:∃ r,r=h % 8:=⟨_,rfl⟩
  obtain ⟨q8,hq8⟩:∃ r,r=h / 8:=⟨_,rfl⟩
  have er:(h:Int) % 8=(r8:Int):=by omega
  have eq:(h:Int) / 8=(q8:Int):=by omega
  have HKD:=Lib.hid kd
  have HR8:=Lib.hid (And.intro hr8 hq8)
  have hr88:r8 < 8:=by omega
  have hq32:(q8:Int) < 32:=by omega
  have hq0:(0:Int)≤(q8:Int):=by omega
  clear hwd kd hr8 hq8
  go_wp2_with fail
  go_loopw [9,10] (fun vv iv wr=>∃ (i v:Nat),i≤r8∧iv=.int .i64 i∧vv=.int .u8 v∧v=2 ^ i∧wr=wd) (fun _ iv _=>r8 - (intOf iv).toNat)
  case atStart=>exact ⟨0,1,by omega,rfl,rfl,rfl,rfl⟩
  case round =>
   obtain ⟨i,v,hi,rfl,rfl,hv,rfl⟩:=hrel
   have i0:(0:Int)≤(i:Int):=by omega
   by_cases hlt:i < r8
   ·have i1:(i:Int) < (r8:Int):=by omega
    have hv7:v≤64:=by
     rw [hv]
     exact Nat.le_trans (Nat.pow_le_pow_right (by omega) (show i≤6 by omega)) (by decide)
    obtain ⟨v2,hv2⟩:∃ x,x=2 * v:=⟨_,rfl⟩
    have e5:IntKind.u8.wrap (2 * (v:Int))=(v2:Int):=by rw [hv2];simp only [IntKind.wrap,IntKind.bits,IntKind.signed];simp;omega
    have HV:=Lib.hid (And.intro hv hv2)
    clear hv hv2
    go_wp2_with fail
    go_roundw
    case rel =>
     refine ⟨i+1,v2,by omega,by go_num,rfl,by rw [HV.out.2,HV.out.1,Nat.pow_succ];omega,by first | rfl | trivial⟩
    case measure=>simp [intOf];omega
   ·obtain rfl:r8=i:=by omega
    have i1:¬ (r8:Int) < (r8:Int):=by omega
    obtain ⟨bv,hbv⟩:∃ v,v=(bits.getD q8 0).toNat:=⟨_,rfl⟩
    have hlow:bv < 2 ^ r8:=by
     have h:=HBT.out.2
     rw [← HR8.out.1,← HR8.out.2,← hbv] at h
     exact h
    have hb256:bv < 256:=by rw [hbv];exact UInt8.toNat_lt _
    have hv256:v≤128:=by
     rw [hv]
     exact Nat.le_trans (Nat.pow_le_pow_right (by omega) (show r8≤7 by omega)) (by decide)
    obtain ⟨nb,hnb⟩:∃ x,x=bv+v:=⟨_,rfl⟩
    have hsum:bv+2 ^ r8 < 256:=by
     have:2 ^ r8+2 ^ r8≤256:=by
      rw [← Nat.two_mul,← Nat.pow_succ']
      exact Nat.le_trans (Nat.pow_le_pow_right (by omega) (show r8+1≤8 by omega)) (by decide)
     omega
    have hs2:bv+v < 256:=by rw [hv];exact hsum
    have e5:IntKind.u8.wrap ((bv:Int)+(v:Int))=(nb:Int):=by simp only [IntKind.wrap,IntKind.bits,IntKind.signed];simp;omega
    have e5':((bv:Int)+(v:Int)) % 256=(nb:Int):=by omega
    have hnbv:(UInt8.ofNat bv ||| UInt8.ofNat (2 ^ r8)).toNat=nb:=by rw [or_pow_byte hb256 hr88,add_pow_byte hr88 hlow,hnb,hv]
    have b4:wr.heap[g4]?=some (.cells (pfCells ⟨f,vb,bits,[]⟩ (.slice av nv cv) (.slice sa ones.length sc)).toArray 57 (0,0)):=by
     rw [← HC.out.1]
     exact (HKD.out.block g4 (lt_of_heap HB4.out) (by simp)).trans HB4.out
    have hq8l:q8 < bits.length:=by rw [HBT.out.1];omega
    have c4:wr.cell? ⟨g4,2+q8,none⟩=some (.int .u8 bv):=by
     rw [hbv,List.getD_eq_getElem?_getD,List.getElem?_eq_getElem hq8l]
     exact pf_bit_cell b4 HBT.out.1 (show q8 < 32 by omega) (List.getElem?_eq_getElem hq8l)
    have f4:=frozen_of_row wr g4 (2+q8) _ _ b4
    have HB4r:=Lib.hid b4
    have HNB:=Lib.hid (And.intro hnbv hbv)
    have HQ8:=Lib.hid hq8l
    clear hlow hbv hb256 hv256 hnb hsum hs2 hnbv b4 hq8l hv hi
    go_upto_region 9 with fail
    obtain ⟨w5,hw5⟩:∃ x,x=wr.setCell ⟨g4,2+q8,none⟩ (.int .u8 nb):=⟨_,rfl⟩
    rw [← hw5]
    obtain ⟨b2,hb2⟩:∃ x,x=bits.set q8 (UInt8.ofNat bv ||| UInt8.ofNat (2 ^ r8)):=⟨_,rfl⟩
    have hb2l:b2.length=32:=by rw [hb2,List.length_set];exact HBT.out.1
    have hp5:w5.heap[g4]?=some (.cells (pfCells ⟨f,vb,b2,[]⟩ (.slice av nv cv) (.slice sa ones.length sc)).toArray 57 (0,0)):=by
     have h:=heap_setCell_same wr g4 (2+q8) _ _ (.int .u8 nb) HB4r.out
     have eB:(Value.int .u8 (nb:Int))=B (UInt8.ofNat bv ||| UInt8.ofNat (2 ^ r8)):=by show _=Value.int .u8 _;rw [HNB.out.1]
     rw [eB,pf_set_bit _ _ _ HQ8.out,← hb2,← eB] at h
     rw [hw5]
     exact h
    have k5:Keeps [g4] wr w5:=by rw [hw5];exact (Keeps.refl _ _).setCell (.inl (by simp)) _
    have kw5:Keeps [] w w5:=(HK1.out.trans (G:=[]) HKD.out (by simp)).trans (G:=[g4]) k5 (fun j hj=>.inr (by simp at hj;have:=HG4.out;omega))
    have how5:w5.ownsRow base 88 32 (.slice sa ones.length sc) ones.length (sumCells ones):=ownsRow_keep HOWN.out (fun j hj=>kw5.block j (World.ownsRow.lt HOWN.out j hj).2 (by simp))
    have hr7:w5.rangeAt g7 0 (d.map B):=rangeAt_all ((HB7.out.keeps HKD.out (by simp)).keeps k5 (by have:=HG4.out;have:=HG7.out;simp;omega))
    have b85:w5.heap[g8]?=some (.cells Z.toArray 57 (0,0)):=(k5.block g8 (Nat.lt_of_lt_of_le (lt_of_heap HB8.out) HKD.out.size) (by have:=HG4.out;have:=HE8.out;simp;omega)).trans ((HKD.out.block g8 (lt_of_heap HB8.out) (by simp)).trans HB8.out)
    have q34:=(pf_cells hp5 hb2l).2.2
    have hb5:base≤w5.heap.size:=Nat.le_trans hbase kw5.size
    have hon:ones.length+1≤1073741824:=by omega
    have HP5:=Lib.hid hp5
    have HB2:=Lib.hid (And.intro hb2 hb2l)
    have HKW5:=Lib.hid kw5
    have HOW5:=Lib.hid how5
    have HR7:=Lib.hid hr7
    have HB85:=Lib.hid b85
    have HDL1:=Lib.hid HDL.out.1
    clear hw5 hb2 hb2l hp5 k5 kw5 how5 hr7 b85 c4 f4 HB4r e5 e5'
    go_wp2_with (first | (refine wpList_load_mid rfl 88 (.tmp 7) rfl g7 0 (by rfl) (d.map B) _ HR7.out Tryz.underlying88 rfl HSD.out ?_;try simp only [zA,zB,zC,zD,zE,zF,zG,zH]) | (refine wl_buildSlice rfl 55 1 #[(0,.tmp 39)] #[(0,.agg (d.map B).toArray)] rfl (by simp [Act.eval]) ?_;refine ⟨_,_,run_buildSlice_one _ Tryz.underlying55 info_digest (cs:=(d.map B).toArray) (by simpa using HDL1.out) (by omega) (by omega),?_⟩;try simp only [zA,zB,zC,zD,zE,zF,zG,zH]) | (refine wl_appD (w0:=w5) rfl (.tmp 38) (.tmp 40) rfl base (.slice sa ones.length sc) ones.length ones (by rfl) HOW5.out d HDL1.out (by rfl) (by rfl) hon hb5 ?_))
    intro v6 w6 ho6 hk6 hbl6
    obtain ⟨a6,c6,rfl⟩:=own_form ho6
    try simp only [zA,zB,zC,zD,zE,zF,zG,zH]
    have hne4:(Value.slice sa ones.length sc).ownBlock≠some g4:=fun e=>by have:=(World.ownsRow.lt HOWN.out g4 e).2;have:=HG4.out;omega
    have hne8:(Value.slice sa ones.length sc).ownBlock≠some g8:=fun e=>by have:=(World.ownsRow.lt HOWN.out g8 e).2;have:=HE8.out;omega
    have hp6:w6.heap[g4]?=some (.cells (pfCells ⟨f,vb,b2,[]⟩ (.slice av nv cv) (.slice sa ones.length sc)).toArray 57 (0,0)):=(hbl6 g4 (lt_of_heap HP5.out) hne4).trans HP5.out
    have b86:w6.heap[g8]?=some (.cells Z.toArray 57 (0,0)):=(hbl6 g8 (lt_of_heap HB85.out) hne8).trans HB85.out
    have q34':=(pf_cells hp6 HB2.out.2).2.2
    have f34:=frozen_of_row w6 g4 34 _ _ hp6
    have HO6:=Lib.hid ho6
    have HK6:=Lib.hid hk6
    have HBL6:=Lib.hid hbl6
    have HP6:=Lib.hid hp6
    have HB86:=Lib.hid b86
    clear q34 ho6 hk6 hbl6 hne4 hne8 hp6 b86
    go_upto_region 10 with fail
    obtain ⟨w7,hw7⟩:∃ x,x=w6.setCell ⟨g4,34,none⟩ (.slice a6 (ones.length+1) c6):=⟨_,rfl⟩
    rw [← hw7]
    obtain ⟨C2,hC2⟩:∃ C,C=pfCells ⟨f,vb,b2,[]⟩ (.slice av nv cv) (.slice a6 (ones.length+1) c6):=⟨_,rfl⟩
    have hC2l:C2.length=35:=by rw [hC2];exact pf_length HB2.out.2 _ _
    have hC21:∀ v∈C2,v.oneCell'=true:=by rw [hC2];exact pf_ones
    have hp7:w7.heap[g4]?=some (.cells C2.toArray 57 (0,0)):=by
     have h:=heap_setCell_same w6 g4 34 _ _ (.slice a6 (ones.length+1) c6) HP6.out
     rw [pf_set34 (p:=⟨f,vb,b2,[]⟩) HB2.out.2] at h
     rw [hw7,hC2]
     exact h
    have k67:Keeps [g4] w6 w7:=by rw [hw7];exact (Keeps.refl _ _).setCell (.inl (by simp)) _
    have b87:w7.heap[g8]?=some (.cells Z.toArray 57 (0,0)):=(k67.block g8 (lt_of_heap HB86.out) (by have:=HG4.out;have:=HE8.out;simp;omega)).trans HB86.out
    have HR4:=Lib.hid (rangeAt_all hp7)
    have HC2:=Lib.hid (And.intro hC2 (And.intro hC2l hC21))
    have HSC2:=Lib.hid (show (Tryz.prog.info? 57).map (·.size)=some C2.length by rw [hC2l];exact size_proof)
    have HB87:=Lib.hid b87
    have HK67:=Lib.hid k67
    clear hw7 hC2 hC2l hC21 hp7 k67 b87 q34' f34
    go_wp2_with (first | (refine wpList_load_mid rfl 57 (.tmp 4) rfl g4 0 (by rfl) C2 _ HR4.out Tryz.underlying57 rfl HSC2.out ?_;try simp only [zA,zB,zC,zD,zE,zF,zG,zH]) | (refine wl_store rfl 57 (.tmp 8) (.tmp 43) rfl ?_;refine ⟨_,run_store_pf HB87.out HZ.out.1 HC2.out.2.1 HC2.out.2.2,?_⟩;try simp only [zA,zB,zC,zD,zE,zF,zG,zH]))
    refine bodyPost_ret (v:=.agg C2.toArray) (results_pf (b:=g8) rfl rfl (rangeAt_all (store_all HB87.out (by rw [HZ.out.1,HC2.out.2.1]))) HC2.out.2.1) rfl ?_
    have e1:setBits bits h d E=b2:=by unfold setBits;rw [if_neg HDE.out,HB2.out.1,HR8.out.1,HR8.out.2,HNB.out.2,HR8.out.2]
    have e2:setOnes ones d E=ones++[d]:=by unfold setOnes;rw [if_neg HDE.out]
    rw [e1,e2]
    have hw0:∀ j,w.heap.size≤j→True:=fun _ _=>trivial
    have hg4w:w.heap.size≤g4:=by have:=HG4.out;omega
    have hg8w:w.heap.size≤g8:=by have:=HE8.out;omega
    refine ⟨.slice a6 (ones.length+1) c6,by rw [HC2.out.1],?_,fun F wx hx hbx=>?_,fun j hj hne=>?_,?_⟩
    ·rw [List.length_append]
     refine ownsRow_keep HO6.out (fun j hj=>?_)
     have hj8:j≠g8∧j≠g4:=by
      obtain ⟨c1,h1⟩:=own_type HO6.out hj
      exact ⟨fun e=>by subst e;rw [HB86.out] at h1;injection h1 with h1;injection h1 with _ h3 _;exact proof_not_dig h3,fun e=>by subst e;rw [HP6.out] at h1;injection h1 with h1;injection h1 with _ h3 _;exact proof_not_dig h3⟩
     rw [heap_setCells_other _ _ _ hj8.1]
     exact HK67.out.block j (World.ownsRow.lt HO6.out j hj).2 (by simpa using hj8.2)
    ·have h5:=HK6.out F wx (hx.trans (G:=[]) HKW5.out (by simp)) hbx
     have h7:=h5.trans (G:=[g4]) HK67.out (fun j hj=>.inr (by simp at hj;have:=hx.size;omega))
     exact h7.setCells (.inr (by have:=hx.size;omega)) _ _
    ·rw [heap_setCells_other _ _ _ (by omega),HK67.out.block j (by have:=lt_of_heap HB86.out;omega) (by simp;omega)]
     rw [HBL6.out j (by have:=HKW5.out.size;omega) hne]
     exact HKW5.out.block j hj (by simp)
    ·rw [size_setCells]
     have h1:=HKW5.out.size
     have h2:=HK67.out.size
     have h3:=lt_of_heap HB86.out
     omega
end Go.Proofs.YtakaocenbempmaaGreatDoor
