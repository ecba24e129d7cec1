/-
  Lemmas of a claim, bundle d: XStE XStF.
-/
import Derived.Test.YtakaocenbempmaaGreatDoorPfT
set_option linter.unusedVariables false
set_option linter.unusedSimpArgs false
namespace Go.Proofs.YtakaocenbempmaaGreatDoor
open Go.RowKit
set_option maxRecDepth 100000 in
set_option maxHeartbeats 3200000 in
theorem sStage_1 {w:World} {s b bf c bm:Nat} {S:St} {sv v:Value} {d:D} {F:List Nat} {load:List UInt8} (h:StoreIn w s b S bf c bm sv) (hd:DiskAt w b d F) (hl:liveE d S.f=0) (hv:BytesAt w v load)
  (hll:load.length≤246) (hroom:S.f.sup.mark+S.C.kept.length < d.n) :
  Calls Tryz.prog 6 #[.pointer (some ⟨s,0,none⟩),.int .i64 1,v] w fun e w'=>e=.returned (.tuple #[.int .i64 (S.f.sup.mark+S.C.kept.length),.int .i64 0]) ∧
   ∃ eb lv sv',StoreIn w' s b (S.stage ⟨eb,S.f.sup.mark+S.C.kept.length,1,lv,load⟩) bf c bm sv'∧Keeps (stF s bf c bm sv S) w w'∧From w (stF s bf c bm sv S) (stF s bf c bm sv' (S.stage ⟨eb,S.f.sup.mark+S.C.kept.length,1,lv,load⟩)):=by
 obtain ⟨va,vc,rfl,hvc,hvm⟩:=hv.form
 obtain ⟨hn3,hn4,_⟩:=hd.ok
 obtain ⟨sa,scp,rfl⟩:=h.form
 obtain ⟨m,hm⟩:∃ m,m=S.C.kept.length:=⟨_,rfl⟩
 obtain ⟨N,hN⟩:∃ N:Int,N=S.f.sup.mark+S.C.kept.length:=⟨_,rfl⟩
 have CL:=sLive_any h hd
 rw [hl] at CL
 have CL':=Lib.hid CL
 have HH:=Lib.hid h
 have HD:=Lib.hid hd
 have HV:=Lib.hid hv
 have HN:=Lib.hid hN
 have HM:=Lib.hid hm
 have HLL:=Lib.hid hll
 rw [← hN] at hroom ⊢
 rw [← hm] at HH ⊢
 have ln:(load.length:Int)≤246:=by omega
 have q1:N < (d.n:Int):=hroom
 have HQ1:=Lib.hid q1
 have HN4:=Lib.hid hn4
 have hmark:=h.mark
 have N0:=Lib.hid (show 2≤N by omega)
 clear h hd hl hv hll hroom hN hm hn3 hn4 CL hmark hvm
 go_enter Tryz.func6,Tryz.ntmps6
 go_wp2_with fail
 refine CL'.out.mono ?_
 rintro e w1 ⟨rfl,hk1⟩
 have HH1:=Lib.hid (HH.out.keeps hk1 (by simp))
 have HK1:=Lib.hid hk1
 have CN:=sNext_any HH1.out
 rw [← HN.out] at CN
 have CN':=Lib.hid CN
 clear hk1 CL' CN
 go_upto_region 8 with fail
 clear ln
 go_wp2_with fail
 refine CN'.out.mono ?_
 rintro e w2 ⟨rfl,hk2⟩
 have HH2:=Lib.hid (HH1.out.keeps hk2 (by simp))
 have HD2:=Lib.hid ((HD.out.keeps HK1.out (by simp)).keeps hk2 (by simp))
 have HK2:=Lib.hid (HK1.out.trans (G:=[]) hk2 (by simp))
 have CP:=Lib.hid (sPages_any HH2.out HD2.out)
 have CC:=Lib.hid (sCopied_any (HV.out.keeps HK2.out (by simp)) (by have:=HLL.out;omega))
 clear hk2 CN' HH1 HK1
 go_upto_region 11 with (go_at_call 21;refine CP.out.mono ?_;rintro e w' ⟨rfl,rfl⟩)
 clear q1 CP
 go_wp2_with fail
 refine CC.out.mono ?_
 rintro e w3 ⟨la,lc,rfl,hlv,hln,hk3⟩
 obtain ⟨w4,hw4⟩:∃ x,x=w3.alloc (.cells #[.int .i64 1,.slice la load.length lc] 74 (0,0)):=⟨_,rfl⟩
 obtain ⟨gc,hgc⟩:∃ x,x=w3.heap.size:=⟨_,rfl⟩
 have hk34:Keeps [] w3 w4:=by rw [hw4];exact (Keeps.refl _ _).alloc _
 have hc4:w4.heap[gc]?=some (.cells #[.int .i64 1,.slice la load.length lc] 74 (0,0)):=by rw [hw4];exact heap_new_at hgc
 have HW4:=Lib.hid hw4
 have HGC:=Lib.hid hgc
 have HK4:=Lib.hid (HK2.out.trans (G:=[]) (hk3.trans (G:=[]) hk34 (by simp)) (by simp))
 have HH4:=Lib.hid ((HH2.out.keeps hk3 (by simp)).keeps hk34 (by simp))
 have HLV:=Lib.hid (show OwnB w4 (.slice la load.length lc) load from ownsRow_keep hlv (fun k hk=>hk34.block k (World.ownsRow.lt hlv k hk).2 (by simp)))
 have HLN:=Lib.hid (show ∀ k,(Value.slice la load.length lc).ownBlock=some k→w.heap.size≤k∧k < w4.heap.size from fun k hk=>⟨Nat.le_trans HK2.out.size (hln k hk),by have:=(World.ownsRow.lt hlv k hk).2;have:=hk34.size;omega⟩)
 have HC4:=Lib.hid hc4
 have HGW:=Lib.hid (show w.heap.size≤gc by rw [hgc];exact Nat.le_trans HK2.out.size hk3.size)
 clear hlv hln hk3 hw4 hgc hk34 hc4 CC
 go_upto_region 12 with fail
 rw [← HW4.out,← HGC.out]
 have S3:=Lib.hid (fun (wx:World) (hk:Keeps [] w4 wx)=>(HH4.out.keeps hk (by simp)).cells.2.2)
 have c3:=HH4.out.cells.2.2
 have sz2:(Tryz.prog.info? 74).map (·.size)=some 2:=size_content
 have hst:=HH4.out.staged
 rw [← HM.out] at hst
 have HST:=Lib.hid hst
 have f3:=frozen_of_row w4 s 3 _ _ HH4.out.root
 clear hst
 refine rl_start (fun w'=>w'.cell? ⟨s,3,none⟩=some (.slice sa m scp)∧w'.rangeAt gc 0 [.int .i64 1,.slice la load.length lc]) 10 (by kernel_rfl) ?_ (fun hHeld=>?_)
 ·exact ⟨c3,rangeAt_all HC4.out⟩
 refine rk 0 ?_
 refine rk 1 ?_
 refine rk 2 ?_
 refine rk 3 ?_
 refine rk 4 ?_
 refine rkb 5 rfl (yieldsIf_load_mid (by rfl) 74 (.tmp 10) rfl gc 0 rfl [.int .i64 1,.slice la load.length lc] _ (fun _ h=>h.2) Tryz.underlying74 rfl sz2) ?_
 clear hHeld
 refine rl_act (i:=6) (by kernel_rfl) rfl (fun K hK=>?_)
 (refine st_buildSlice rfl 75 1 #[(0,.tmp 44)] #[(0,.agg #[.int .i64 1,.slice la load.length lc])] rfl (by simp [Act.eval]) ?_;refine ⟨_,_,run_buildSlice_one _ Tryz.underlying75 info_content (cs:=#[.int .i64 1,.slice la load.length lc]) rfl (by omega) (by omega),?_⟩;try simp only [zA,zB,zC,zD,zE,zF,zG,zH])
 have ka:Keeps [] w4 (w4.drew.alloc (.cells #[.int .i64 1,.slice la load.length lc] 74 (0,0))):=((Keeps.refl [] w4).drew).alloc _
 have KA:=Lib.hid ka
 clear ka
 refine hK.out _ _ ?_ (fun hHeld=>?_)
 ·exact ⟨S3.out _ KA.out,rangeAt_of_heap (rangeAt_all HC4.out) (KA.out.block gc (lt_of_heap HC4.out) (by simp))⟩
 clear hK K
 try simp only [zA,zB,zC,zD,zE,zF,zG,zH]
 clear hHeld
 refine rl_act (i:=7) (by kernel_rfl) rfl (fun K hK=>?_)
 obtain ⟨i0,hi0,hz0,hz1,hz2⟩:=info_parts info_content
 refine step_append_lies _ rfl (.tmp 43) (.tmp 45) 75 rfl 0 74 i0 (.agg #[.int .i64 0,.slice none 0 0]) 2 32 Tryz.underlying75 hi0 hz0 hz1 hz2 rfl (by omega) (.slice sa m scp) m (stagedC S.C.kept) (by rfl) ((show w4.drew.ownsRow _ _ _ _ _ _ from HST.out).alloc _) ⟨w4.heap.size,0,none⟩ 1 1 [.int .i64 1,.slice la load.length lc] (by rfl) rfl
  (World.news_of_block (cs:=#[.int .i64 1,.slice la load.length lc]) (t:=74) (fr:=(0,0)) (heap_new_at rfl)) (content_ones _ _ _ _) (by omega) (by have:=HN.out;have:=HM.out;have:=HN4.out;have:=HD2.out.ok.2.1;have:=HH.out.room;have:=HH.out.mark;simp only [maxLen];omega) (by have:=HM.out;have:=HH.out.room;have:=HH.out.mark;omega) (by omega) (w4.heap.size+1) (by simp) ?_
 intro gq cap w5 hown5 hgr5 hat5 hlt5
 have HN1:=Lib.hid HH.out.n1
 have hs5:w5.heap[s]?=w4.heap[s]?:=by
  have hlt:=lt_of_heap HH4.out.root
  rw [hgr5.block s (by simp;omega) (fun e=>HN1.out.2.2.2.1 e.symm)]
  exact KA.out.block s hlt (by simp)
 have hgc5:w5.heap[gc]?=w4.heap[gc]?:=by
  have hlt:=lt_of_heap HC4.out
  have hb:=HH.out.lt
  rw [hgr5.block gc (by simp;omega) (fun e=>by have:=(HH.out.staged.lt gc e.symm).2;have:=HGW.out;omega)]
  exact KA.out.block gc hlt (by simp)
 have m3:w5.cell? ⟨s,3,none⟩=some (.slice sa m scp):=(cell_of_heap hs5 3).trans c3
 have g3:w5.frozen? ⟨s,3,none⟩=false:=frozen_of_row w5 s 3 _ _ (hs5.trans HH4.out.root)
 have HR5:=Lib.hid (rangeAt_of_heap (rangeAt_all HC4.out) hgc5)
 have HC5:=Lib.hid (hgc5.trans HC4.out)
 have HOWN5:=Lib.hid hown5
 have HGR5:=Lib.hid hgr5
 have HAT5:=Lib.hid hat5
 have HS5:=Lib.hid hs5
 clear hown5 hgr5 hat5 hlt5 hs5 hgc5 i0 hi0 hz0 hz1 hz2
 refine hK.out _ _ ?_ (fun hHeld=>?_)
 ·exact ⟨m3,HR5.out⟩
 clear hK K
 try simp only [zA,zB,zC,zD,zE,zF,zG,zH]
 refine rl_act (i:=8) (by kernel_rfl) rfl (fun K hK=>?_)
 go_simp
 refine hK.out _ _ ?_ (fun hHeld=>?_)
 ·exact hHeld
 clear hK K
 try simp only [zA,zB,zC,zD,zE,zF,zG,zH]
 refine rk 9 ?_
 refine rl_last (by kernel_rfl) (by kernel_rfl) rfl (fun K hK=>?_)
 go_simp
 refine hK.out _ _ ?_
 clear hK K
 try simp only [zA,zB,zC,zD,zE,zF,zG,zH]
 obtain ⟨sv',hsv⟩:∃ x,x=Value.slice (some ⟨gq,0,none⟩) (m+1) cap:=⟨_,rfl⟩
 obtain ⟨w6,hw6⟩:∃ x,x=w5.setCell ⟨s,3,none⟩ (.slice (some ⟨gq,0,none⟩) (m+1) cap):=⟨_,rfl⟩
 have hoth6:∀ k,k≠s→w6.heap[k]?=w5.heap[k]?:=fun k hk=>by rw [hw6];exact Below.heap_setCell w5 _ _ k hk
 have hs4:s < w.heap.size:=lt_of_heap HH.out.root
 have hfar:∀ k,k < w4.heap.size→(Value.slice sa m scp).ownBlock≠some k→k≠s→w6.heap[k]?=w4.heap[k]?:=fun k h1 h2 h3=>by
  rw [hoth6 k h3,HGR5.out.block k (by simp;omega) (fun e=>h2 e.symm)]
  exact KA.out.block k h1 (by simp)
 have hroot6:w6.heap[s]?=some (.cells (stC bf c sv') 80 (0,0)):=by
  rw [hw6,hsv]
  exact heap_setCell_same w5 s 3 _ _ _ (HS5.out.trans HH4.out.root)
 have hsize:w4.heap.size≤w6.heap.size:=by
  have h1:=HGR5.out.size
  have h2:w6.heap.size=w5.heap.size:=by rw [hw6];simp [World.setCell]
  simp at h1
  omega
 have hgqs:gq≠s:=by
  rcases HAT5.out with e | e
  ·exact fun e1=>HN1.out.2.2.2.1 (by rw [e,e1])
  ·have:=HK4.out.size;omega
 have hgqc:∀ k∈caF c bm S.C,gq≠k:=fun k hk e1=>by
  rcases HAT5.out with e | e
  ·exact HH.out.n2 k hk (by rw [e,e1])
  ·have:=HH.out.lt k (mem_stF.2 (.inr (.inr (.inl hk))));have:=HK4.out.size;omega
 have hcache6:CacheIn w6 c bm S.C:=HH4.out.cache.keep (fun k hk=>hfar k (HH4.out.cache.lt k hk) (HH.out.n2 k hk) (fun e=>HN1.out.2.1 (e ▸ hk)))
 have hfile6:FileAt w6 bf b S.f:=(hfar bf (lt_of_heap HH4.out.file) HN1.out.2.2.2.2 HN1.out.1.symm).trans HH4.out.file
 have hlv6:OwnB w6 (.slice la load.length lc) load:=ownsRow_keep HLV.out (fun k hk=>by
  obtain ⟨l1,l2⟩:=HLN.out k hk
  exact hfar k l2 (fun e=>by have:=(HH.out.staged.lt k e).2;omega) (by omega))
 have hgc6:w6.heap[gc]?=some (.cells #[.int .i64 1,.slice la load.length lc] 74 (0,0)):=(hoth6 gc (by have:=HGW.out;omega)).trans HC5.out
 have hown6:w6.ownsRow 0 74 2 sv' (m+1) (stagedC S.C.kept++[.int .i64 1,.slice la load.length lc]):=by
  rw [hsv]
  exact ownsRow_keep HOWN5.out (fun k hk=>by
   simp only [Value.ownBlock,Option.some.injEq] at hk
   subst hk
   exact hoth6 gq hgqs)
 have hall6:S.C.all.length < 900000:=by
  have h1:=HH.out.few
  have h2:=HH.out.room
  have h3:=HH.out.mark
  simp only [Ca.all,List.length_append]
  omega
 have hnew6:∀ e∈S.C.all,e.key≠N:=fun e he=>by
  have hN:=HN.out
  rcases List.mem_append.1 he with he | he
  ·have:=HH.out.old e he;omega
  ·obtain ⟨i,hi⟩:=List.mem_iff_getElem?.1 he
   have h1:=HH.out.keys i e hi
   have h2:=(List.getElem?_eq_some_iff.1 hi).1
   omega
 have hNb:2≤N∧N < 4096:=⟨N0.out,by have:=HN4.out;have:=HQ1.out;omega⟩
 have CH:=Lib.hid (caHold_new (w:=w6.drew) (kind:=1) (hcache6.keep (fun _ _=>rfl)) hnew6 (WalkArith.wf_i64 (by omega)) hlv6 hall6)
 have HROOT6:=Lib.hid hroot6
 have HFILE6:=Lib.hid hfile6
 have HOWN6:=Lib.hid hown6
 have HC6:=Lib.hid (show w6.cell? ⟨s,2,none⟩=some (.pointer (some ⟨c,0,none⟩)) from cell_sets_of hroot6 rfl)
 have HGC6:=Lib.hid (rangeAt_all hgc6)
 have HGCB:=Lib.hid (show gc ∉ caF c bm S.C∧s ∉ caF c bm S.C from ⟨fun hm=>by have:=HH.out.lt gc (mem_stF.2 (.inr (.inr (.inl hm))));have:=HGW.out;omega,HN1.out.2.1⟩)
 have HGQ:=Lib.hid (And.intro hgqs hgqc)
 have HNB:=Lib.hid hNb
 have HSV:=Lib.hid hsv
 have HSZ6:=Lib.hid hsize
 have hk6:Keeps (stF s bf c bm (.slice sa m scp) S) w w6:=by
  rw [hw6]
  have k1:Keeps (stF s bf c bm (.slice sa m scp) S) w (w4.drew.alloc (.cells #[.int .i64 1,.slice la load.length lc] 74 (0,0))):=(HK4.out.trans (G:=[]) KA.out (by simp)).mono (by simp)
  have k2:Keeps (stF s bf c bm (.slice sa m scp) S) w w5:=k1.grown HGR5.out (fun k hk=>.inl (mem_stF.2 (.inr (.inr (.inr hk)))))
  exact k2.setCell (p:=⟨s,3,none⟩) (.inl (mem_stF.2 (.inl rfl))) _
 have HK6:=Lib.hid hk6
 have HLV6:=Lib.hid hlv6
 rw [show w5.setCell ⟨s,3,none⟩ (.slice (some ⟨gq,0,none⟩) (m+1) cap)=w6 from hw6.symm]
 clear hw6 hoth6 hs4 hfar hroot6 hsize hgqs hgqc hcache6 hfile6 hlv6 hgc6 hown6 hall6 hnew6 hNb hsv hk6 hHeld c3 f3 m3 g3
 go_upto_region 13 with fail
 refine wp_region_held_drew (S:=(fun w'=>w'.cell? ⟨s,2,none⟩=some (.pointer (some ⟨c,0,none⟩))∧w'.rangeAt gc 0 [.int .i64 1,.slice la load.length lc])) (by kernel_rfl) ?_ (fun hHeld=>?_)
 ·exact ⟨HC6.out,HGC6.out⟩
 refine tk 0 ?_
 refine tk 1 ?_
 refine tk 2 ?_
 refine tk 3 ?_
 refine tk 4 ?_
 refine tkb 5 rfl (yieldsIf_load_mid (by rfl) 74 (.tmp 10) rfl gc 0 rfl [.int .i64 1,.slice la load.length lc] _ (fun _ h=>h.2) Tryz.underlying74 rfl sz2) ?_
 clear hHeld
 refine ac 6 fun K hK=>?_
 go_simp
 refine CH.out.mono ?_
 rintro e w7 ⟨rfl,eb,hc7,heb,hk7⟩
 have hk67:Keeps (caF c bm S.C) w6 w7:=⟨hk7.os,hk7.tape,hk7.output,hk7.size,hk7.block⟩
 have HK7:=Lib.hid hk67
 have HC7:=Lib.hid hc7
 have HEB:=Lib.hid (show w6.heap.size≤eb from heb)
 clear hk7 hk67 hc7 heb CH
 refine hK.out _ _ ?_ (fun hHeld=>?_)
 ·have hs7:=HK7.out.block s (lt_of_heap HROOT6.out) HGCB.out.2
  refine ⟨(cell_of_heap hs7 2).trans HC6.out,rangeAt_of_heap HGC6.out (HK7.out.block gc ?_ HGCB.out.1)⟩
  have:=lt_of_heap HC4.out
  have:=HSZ6.out
  omega
 clear hK K
 try simp only [zA,zB,zC,zD,zE,zF,zG,zH]
 refine wpAnyH_done (by kernel_rfl) ?_ _
 clear hHeld
 go_wp2_with fail
 go_ret2
 refine ⟨rfl,eb,_,sv',⟨?_,?_,HC7.out,?_,?_,HH.out.old,HH.out.mark,?_,HH.out.few,?_,?_⟩,?_,?_⟩
 ·exact (HK7.out.block s (lt_of_heap HROOT6.out) HGCB.out.2).trans HROOT6.out
 ·exact (HK7.out.block bf (lt_of_heap HFILE6.out) HN1.out.2.2.1).trans HFILE6.out
 ·have e1:(S.stage ⟨eb,N,1,.slice la load.length lc,load⟩).C.kept=S.C.kept++[⟨eb,N,1,.slice la load.length lc,load⟩]:=rfl
  rw [e1,stagedC_snoc,List.length_append,← HM.out]
  refine ownsRow_keep HOWN6.out (fun k hk=>HK7.out.block k (HOWN6.out.lt k hk).2 (fun hm=>?_))
  rw [HSV.out] at hk
  simp only [Value.ownBlock,Option.some.injEq] at hk
  exact HGQ.out.2 k hm hk
 ·intro i e hi
  have e1:(S.stage ⟨eb,N,1,.slice la load.length lc,load⟩).C.kept=S.C.kept++[⟨eb,N,1,.slice la load.length lc,load⟩]:=rfl
  rw [e1] at hi
  by_cases hlt:i < S.C.kept.length
  ·rw [List.getElem?_append_left hlt] at hi
   exact HH.out.keys i e hi
  ·rw [List.getElem?_append_right (by omega)] at hi
   have h0:i - S.C.kept.length=0:=by
    have:=(List.getElem?_eq_some_iff.1 hi).1
    simp at this
    omega
   rw [h0] at hi
   simp only [List.getElem?_cons_zero,Option.some.injEq] at hi
   subst hi
   show N=S.f.sup.mark+i
   rw [HN.out]
   omega
 ·have e1:(S.stage ⟨eb,N,1,.slice la load.length lc,load⟩).C.kept=S.C.kept++[⟨eb,N,1,.slice la load.length lc,load⟩]:=rfl
  rw [e1,List.length_append]
  have h1:=HN.out
  have h2:=HNB.out
  show S.f.sup.mark+((S.C.kept.length+1:Nat):Int)≤4096
  omega
 ·have hsw:s < w.heap.size:=lt_of_heap HH.out.root
  have hbw:bf < w.heap.size:=lt_of_heap HH.out.file
  have hle:w.heap.size≤eb:=Nat.le_trans (Nat.le_trans HK4.out.size HSZ6.out) HEB.out
  have hmem:∀ k,k∈caF c bm (S.stage ⟨eb,N,1,.slice la load.length lc,load⟩).C→k∈caF c bm S.C∨w.heap.size≤k:=fun k hk=>by
   have e1:(S.stage ⟨eb,N,1,.slice la load.length lc,load⟩).C.all=S.C.all++[⟨eb,N,1,.slice la load.length lc,load⟩]:=by simp [St.stage,Ca.all]
   rcases mem_caF.1 hk with rfl | rfl | ⟨e,he,rfl⟩ | ⟨e,he,hv⟩
   ·exact .inl (mem_caF.2 (.inl rfl))
   ·exact .inl (mem_caF.2 (.inr (.inl rfl)))
   ·rw [e1] at he
    rcases List.mem_append.1 he with he | he
    ·exact .inl (mem_caF.2 (.inr (.inr (.inl ⟨e,he,rfl⟩))))
    ·obtain rfl:e=⟨eb,N,1,.slice la load.length lc,load⟩:=by simpa using he
     exact .inr hle
   ·rw [e1] at he
    rcases List.mem_append.1 he with he | he
    ·exact .inl (mem_caF.2 (.inr (.inr (.inr ⟨e,he,hv⟩))))
    ·obtain rfl:e=⟨eb,N,1,.slice la load.length lc,load⟩:=by simpa using he
     exact .inr (HLN.out k hv).1
  refine ⟨HN1.out.1,fun hm=>(hmem s hm).elim HN1.out.2.1 (fun h=>by omega),fun hm=>(hmem bf hm).elim HN1.out.2.2.1 (fun h=>by omega),?_,?_⟩
  ·rw [HSV.out]
   simp only [Value.ownBlock,ne_eq,Option.some.injEq]
   exact HGQ.out.1
  ·rw [HSV.out]
   simp only [Value.ownBlock,ne_eq,Option.some.injEq]
   rcases HAT5.out with e | e
   ·exact fun e1=>HN1.out.2.2.2.2 (by rw [e,e1])
   ·have:=HK4.out.size;omega
 ·intro k hk e0
  rw [HSV.out] at e0
  simp only [Value.ownBlock,Option.some.injEq] at e0
  have e1:(S.stage ⟨eb,N,1,.slice la load.length lc,load⟩).C.all=S.C.all++[⟨eb,N,1,.slice la load.length lc,load⟩]:=by simp [St.stage,Ca.all]
  have hg6:=(HOWN6.out.lt gq (by rw [HSV.out];rfl)).2
  rcases mem_caF.1 hk with h | h | ⟨e,he,h⟩ | ⟨e,he,hv⟩
  ·exact HGQ.out.2 k (mem_caF.2 (.inl h)) e0
  ·exact HGQ.out.2 k (mem_caF.2 (.inr (.inl h))) e0
  ·rw [e1] at he
   rcases List.mem_append.1 he with he | he
   ·exact HGQ.out.2 k (mem_caF.2 (.inr (.inr (.inl ⟨e,he,h⟩)))) e0
   ·obtain rfl:e=⟨eb,N,1,.slice la load.length lc,load⟩:=by simpa using he
    have h:eb=k:=h
    have:=HEB.out
    omega
  ·rw [e1] at he
   rcases List.mem_append.1 he with he | he
   ·exact HGQ.out.2 k (mem_caF.2 (.inr (.inr (.inr ⟨e,he,hv⟩)))) e0
   ·obtain rfl:e=⟨eb,N,1,.slice la load.length lc,load⟩:=by simpa using he
    obtain ⟨l1,l2⟩:=HLN.out k hv
    rcases HAT5.out with e2 | e2
    ·have:=(HH.out.staged.lt gq e2).2;omega
    ·omega
 ·exact HK6.out.trans (G:=caF c bm S.C) HK7.out (fun k hk=>.inl (mem_stF.2 (.inr (.inr (.inl hk)))))
 ·intro k hk
  have hle:w.heap.size≤eb:=Nat.le_trans (Nat.le_trans HK4.out.size HSZ6.out) HEB.out
  have e1:(S.stage ⟨eb,N,1,.slice la load.length lc,load⟩).C.all=S.C.all++[⟨eb,N,1,.slice la load.length lc,load⟩]:=by simp [St.stage,Ca.all]
  rcases mem_stF.1 hk with h | h | h | h
  ·exact .inl (mem_stF.2 (.inl h))
  ·exact .inl (mem_stF.2 (.inr (.inl h)))
  ·rcases mem_caF.1 h with h | h | ⟨e,he,h⟩ | ⟨e,he,hv⟩
   ·exact .inl (mem_stF.2 (.inr (.inr (.inl (mem_caF.2 (.inl h))))))
   ·exact .inl (mem_stF.2 (.inr (.inr (.inl (mem_caF.2 (.inr (.inl h)))))))
   ·rw [e1] at he
    rcases List.mem_append.1 he with he | he
    ·exact .inl (mem_stF.2 (.inr (.inr (.inl (mem_caF.2 (.inr (.inr (.inl ⟨e,he,h⟩))))))))
    ·obtain rfl:e=⟨eb,N,1,.slice la load.length lc,load⟩:=by simpa using he
     exact .inr (by have h:eb=k:=h;omega)
   ·rw [e1] at he
    rcases List.mem_append.1 he with he | he
    ·exact .inl (mem_stF.2 (.inr (.inr (.inl (mem_caF.2 (.inr (.inr (.inr ⟨e,he,hv⟩))))))))
    ·obtain rfl:e=⟨eb,N,1,.slice la load.length lc,load⟩:=by simpa using he
     exact .inr (HLN.out k hv).1
  ·rw [HSV.out] at h
   simp only [Value.ownBlock,Option.some.injEq] at h
   rcases HAT5.out with e2 | e2
   ·exact .inl (mem_stF.2 (.inr (.inr (.inr (by rw [e2,h])))))
   ·exact .inr (by have:=HK4.out.size;omega)
open Go.RowKit
set_option maxRecDepth 100000 in
set_option maxHeartbeats 3200000 in
theorem sStage_2 {w:World} {s b bf c bm:Nat} {S:St} {sv v:Value} {d:D} {F:List Nat} {load:List UInt8} (h:StoreIn w s b S bf c bm sv) (hd:DiskAt w b d F) (hl:liveE d S.f=0) (hv:BytesAt w v load)
  (hll:load.length≤246) (hroom:S.f.sup.mark+S.C.kept.length < d.n) :
  Calls Tryz.prog 6 #[.pointer (some ⟨s,0,none⟩),.int .i64 2,v] w fun e w'=>e=.returned (.tuple #[.int .i64 (S.f.sup.mark+S.C.kept.length),.int .i64 0]) ∧
   ∃ eb lv sv',StoreIn w' s b (S.stage ⟨eb,S.f.sup.mark+S.C.kept.length,2,lv,load⟩) bf c bm sv'∧Keeps (stF s bf c bm sv S) w w'∧From w (stF s bf c bm sv S) (stF s bf c bm sv' (S.stage ⟨eb,S.f.sup.mark+S.C.kept.length,2,lv,load⟩)):=by
 obtain ⟨va,vc,rfl,hvc,hvm⟩:=hv.form
 obtain ⟨hn3,hn4,_⟩:=hd.ok
 obtain ⟨sa,scp,rfl⟩:=h.form
 obtain ⟨m,hm⟩:∃ m,m=S.C.kept.length:=⟨_,rfl⟩
 obtain ⟨N,hN⟩:∃ N:Int,N=S.f.sup.mark+S.C.kept.length:=⟨_,rfl⟩
 have CL:=sLive_any h hd
 rw [hl] at CL
 have CL':=Lib.hid CL
 have HH:=Lib.hid h
 have HD:=Lib.hid hd
 have HV:=Lib.hid hv
 have HN:=Lib.hid hN
 have HM:=Lib.hid hm
 have HLL:=Lib.hid hll
 rw [← hN] at hroom ⊢
 rw [← hm] at HH ⊢
 have ln:(load.length:Int)≤246:=by omega
 have q1:N < (d.n:Int):=hroom
 have HQ1:=Lib.hid q1
 have HN4:=Lib.hid hn4
 have hmark:=h.mark
 have N0:=Lib.hid (show 2≤N by omega)
 clear h hd hl hv hll hroom hN hm hn3 hn4 CL hmark hvm
 go_enter Tryz.func6,Tryz.ntmps6
 go_wp2_with fail
 refine CL'.out.mono ?_
 rintro e w1 ⟨rfl,hk1⟩
 have HH1:=Lib.hid (HH.out.keeps hk1 (by simp))
 have HK1:=Lib.hid hk1
 have CN:=sNext_any HH1.out
 rw [← HN.out] at CN
 have CN':=Lib.hid CN
 clear hk1 CL' CN
 go_upto_region 8 with fail
 clear ln
 go_wp2_with fail
 refine CN'.out.mono ?_
 rintro e w2 ⟨rfl,hk2⟩
 have HH2:=Lib.hid (HH1.out.keeps hk2 (by simp))
 have HD2:=Lib.hid ((HD.out.keeps HK1.out (by simp)).keeps hk2 (by simp))
 have HK2:=Lib.hid (HK1.out.trans (G:=[]) hk2 (by simp))
 have CP:=Lib.hid (sPages_any HH2.out HD2.out)
 have CC:=Lib.hid (sCopied_any (HV.out.keeps HK2.out (by simp)) (by have:=HLL.out;omega))
 clear hk2 CN' HH1 HK1
 go_upto_region 11 with (go_at_call 21;refine CP.out.mono ?_;rintro e w' ⟨rfl,rfl⟩)
 clear q1 CP
 go_wp2_with fail
 refine CC.out.mono ?_
 rintro e w3 ⟨la,lc,rfl,hlv,hln,hk3⟩
 obtain ⟨w4,hw4⟩:∃ x,x=w3.alloc (.cells #[.int .i64 2,.slice la load.length lc] 74 (0,0)):=⟨_,rfl⟩
 obtain ⟨gc,hgc⟩:∃ x,x=w3.heap.size:=⟨_,rfl⟩
 have hk34:Keeps [] w3 w4:=by rw [hw4];exact (Keeps.refl _ _).alloc _
 have hc4:w4.heap[gc]?=some (.cells #[.int .i64 2,.slice la load.length lc] 74 (0,0)):=by rw [hw4];exact heap_new_at hgc
 have HW4:=Lib.hid hw4
 have HGC:=Lib.hid hgc
 have HK4:=Lib.hid (HK2.out.trans (G:=[]) (hk3.trans (G:=[]) hk34 (by simp)) (by simp))
 have HH4:=Lib.hid ((HH2.out.keeps hk3 (by simp)).keeps hk34 (by simp))
 have HLV:=Lib.hid (show OwnB w4 (.slice la load.length lc) load from ownsRow_keep hlv (fun k hk=>hk34.block k (World.ownsRow.lt hlv k hk).2 (by simp)))
 have HLN:=Lib.hid (show ∀ k,(Value.slice la load.length lc).ownBlock=some k→w.heap.size≤k∧k < w4.heap.size from fun k hk=>⟨Nat.le_trans HK2.out.size (hln k hk),by have:=(World.ownsRow.lt hlv k hk).2;have:=hk34.size;omega⟩)
 have HC4:=Lib.hid hc4
 have HGW:=Lib.hid (show w.heap.size≤gc by rw [hgc];exact Nat.le_trans HK2.out.size hk3.size)
 clear hlv hln hk3 hw4 hgc hk34 hc4 CC
 go_upto_region 12 with fail
 rw [← HW4.out,← HGC.out]
 have S3:=Lib.hid (fun (wx:World) (hk:Keeps [] w4 wx)=>(HH4.out.keeps hk (by simp)).cells.2.2)
 have c3:=HH4.out.cells.2.2
 have sz2:(Tryz.prog.info? 74).map (·.size)=some 2:=size_content
 have hst:=HH4.out.staged
 rw [← HM.out] at hst
 have HST:=Lib.hid hst
 have f3:=frozen_of_row w4 s 3 _ _ HH4.out.root
 clear hst
 refine rl_start (fun w'=>w'.cell? ⟨s,3,none⟩=some (.slice sa m scp)∧w'.rangeAt gc 0 [.int .i64 2,.slice la load.length lc]) 10 (by kernel_rfl) ?_ (fun hHeld=>?_)
 ·exact ⟨c3,rangeAt_all HC4.out⟩
 refine rk 0 ?_
 refine rk 1 ?_
 refine rk 2 ?_
 refine rk 3 ?_
 refine rk 4 ?_
 refine rkb 5 rfl (yieldsIf_load_mid (by rfl) 74 (.tmp 10) rfl gc 0 rfl [.int .i64 2,.slice la load.length lc] _ (fun _ h=>h.2) Tryz.underlying74 rfl sz2) ?_
 clear hHeld
 refine rl_act (i:=6) (by kernel_rfl) rfl (fun K hK=>?_)
 (refine st_buildSlice rfl 75 1 #[(0,.tmp 44)] #[(0,.agg #[.int .i64 2,.slice la load.length lc])] rfl (by simp [Act.eval]) ?_;refine ⟨_,_,run_buildSlice_one _ Tryz.underlying75 info_content (cs:=#[.int .i64 2,.slice la load.length lc]) rfl (by omega) (by omega),?_⟩;try simp only [zA,zB,zC,zD,zE,zF,zG,zH])
 have ka:Keeps [] w4 (w4.drew.alloc (.cells #[.int .i64 2,.slice la load.length lc] 74 (0,0))):=((Keeps.refl [] w4).drew).alloc _
 have KA:=Lib.hid ka
 clear ka
 refine hK.out _ _ ?_ (fun hHeld=>?_)
 ·exact ⟨S3.out _ KA.out,rangeAt_of_heap (rangeAt_all HC4.out) (KA.out.block gc (lt_of_heap HC4.out) (by simp))⟩
 clear hK K
 try simp only [zA,zB,zC,zD,zE,zF,zG,zH]
 clear hHeld
 refine rl_act (i:=7) (by kernel_rfl) rfl (fun K hK=>?_)
 obtain ⟨i0,hi0,hz0,hz1,hz2⟩:=info_parts info_content
 refine step_append_lies _ rfl (.tmp 43) (.tmp 45) 75 rfl 0 74 i0 (.agg #[.int .i64 0,.slice none 0 0]) 2 32 Tryz.underlying75 hi0 hz0 hz1 hz2 rfl (by omega) (.slice sa m scp) m (stagedC S.C.kept) (by rfl) ((show w4.drew.ownsRow _ _ _ _ _ _ from HST.out).alloc _) ⟨w4.heap.size,0,none⟩ 1 1 [.int .i64 2,.slice la load.length lc] (by rfl) rfl
  (World.news_of_block (cs:=#[.int .i64 2,.slice la load.length lc]) (t:=74) (fr:=(0,0)) (heap_new_at rfl)) (content_ones _ _ _ _) (by omega) (by have:=HN.out;have:=HM.out;have:=HN4.out;have:=HD2.out.ok.2.1;have:=HH.out.room;have:=HH.out.mark;simp only [maxLen];omega) (by have:=HM.out;have:=HH.out.room;have:=HH.out.mark;omega) (by omega) (w4.heap.size+1) (by simp) ?_
 intro gq cap w5 hown5 hgr5 hat5 hlt5
 have HN1:=Lib.hid HH.out.n1
 have hs5:w5.heap[s]?=w4.heap[s]?:=by
  have hlt:=lt_of_heap HH4.out.root
  rw [hgr5.block s (by simp;omega) (fun e=>HN1.out.2.2.2.1 e.symm)]
  exact KA.out.block s hlt (by simp)
 have hgc5:w5.heap[gc]?=w4.heap[gc]?:=by
  have hlt:=lt_of_heap HC4.out
  have hb:=HH.out.lt
  rw [hgr5.block gc (by simp;omega) (fun e=>by have:=(HH.out.staged.lt gc e.symm).2;have:=HGW.out;omega)]
  exact KA.out.block gc hlt (by simp)
 have m3:w5.cell? ⟨s,3,none⟩=some (.slice sa m scp):=(cell_of_heap hs5 3).trans c3
 have g3:w5.frozen? ⟨s,3,none⟩=false:=frozen_of_row w5 s 3 _ _ (hs5.trans HH4.out.root)
 have HR5:=Lib.hid (rangeAt_of_heap (rangeAt_all HC4.out) hgc5)
 have HC5:=Lib.hid (hgc5.trans HC4.out)
 have HOWN5:=Lib.hid hown5
 have HGR5:=Lib.hid hgr5
 have HAT5:=Lib.hid hat5
 have HS5:=Lib.hid hs5
 clear hown5 hgr5 hat5 hlt5 hs5 hgc5 i0 hi0 hz0 hz1 hz2
 refine hK.out _ _ ?_ (fun hHeld=>?_)
 ·exact ⟨m3,HR5.out⟩
 clear hK K
 try simp only [zA,zB,zC,zD,zE,zF,zG,zH]
 refine rl_act (i:=8) (by kernel_rfl) rfl (fun K hK=>?_)
 go_simp
 refine hK.out _ _ ?_ (fun hHeld=>?_)
 ·exact hHeld
 clear hK K
 try simp only [zA,zB,zC,zD,zE,zF,zG,zH]
 refine rk 9 ?_
 refine rl_last (by kernel_rfl) (by kernel_rfl) rfl (fun K hK=>?_)
 go_simp
 refine hK.out _ _ ?_
 clear hK K
 try simp only [zA,zB,zC,zD,zE,zF,zG,zH]
 obtain ⟨sv',hsv⟩:∃ x,x=Value.slice (some ⟨gq,0,none⟩) (m+1) cap:=⟨_,rfl⟩
 obtain ⟨w6,hw6⟩:∃ x,x=w5.setCell ⟨s,3,none⟩ (.slice (some ⟨gq,0,none⟩) (m+1) cap):=⟨_,rfl⟩
 have hoth6:∀ k,k≠s→w6.heap[k]?=w5.heap[k]?:=fun k hk=>by rw [hw6];exact Below.heap_setCell w5 _ _ k hk
 have hs4:s < w.heap.size:=lt_of_heap HH.out.root
 have hfar:∀ k,k < w4.heap.size→(Value.slice sa m scp).ownBlock≠some k→k≠s→w6.heap[k]?=w4.heap[k]?:=fun k h1 h2 h3=>by
  rw [hoth6 k h3,HGR5.out.block k (by simp;omega) (fun e=>h2 e.symm)]
  exact KA.out.block k h1 (by simp)
 have hroot6:w6.heap[s]?=some (.cells (stC bf c sv') 80 (0,0)):=by
  rw [hw6,hsv]
  exact heap_setCell_same w5 s 3 _ _ _ (HS5.out.trans HH4.out.root)
 have hsize:w4.heap.size≤w6.heap.size:=by
  have h1:=HGR5.out.size
  have h2:w6.heap.size=w5.heap.size:=by rw [hw6];simp [World.setCell]
  simp at h1
  omega
 have hgqs:gq≠s:=by
  rcases HAT5.out with e | e
  ·exact fun e1=>HN1.out.2.2.2.1 (by rw [e,e1])
  ·have:=HK4.out.size;omega
 have hgqc:∀ k∈caF c bm S.C,gq≠k:=fun k hk e1=>by
  rcases HAT5.out with e | e
  ·exact HH.out.n2 k hk (by rw [e,e1])
  ·have:=HH.out.lt k (mem_stF.2 (.inr (.inr (.inl hk))));have:=HK4.out.size;omega
 have hcache6:CacheIn w6 c bm S.C:=HH4.out.cache.keep (fun k hk=>hfar k (HH4.out.cache.lt k hk) (HH.out.n2 k hk) (fun e=>HN1.out.2.1 (e ▸ hk)))
 have hfile6:FileAt w6 bf b S.f:=(hfar bf (lt_of_heap HH4.out.file) HN1.out.2.2.2.2 HN1.out.1.symm).trans HH4.out.file
 have hlv6:OwnB w6 (.slice la load.length lc) load:=ownsRow_keep HLV.out (fun k hk=>by
  obtain ⟨l1,l2⟩:=HLN.out k hk
  exact hfar k l2 (fun e=>by have:=(HH.out.staged.lt k e).2;omega) (by omega))
 have hgc6:w6.heap[gc]?=some (.cells #[.int .i64 2,.slice la load.length lc] 74 (0,0)):=(hoth6 gc (by have:=HGW.out;omega)).trans HC5.out
 have hown6:w6.ownsRow 0 74 2 sv' (m+1) (stagedC S.C.kept++[.int .i64 2,.slice la load.length lc]):=by
  rw [hsv]
  exact ownsRow_keep HOWN5.out (fun k hk=>by
   simp only [Value.ownBlock,Option.some.injEq] at hk
   subst hk
   exact hoth6 gq hgqs)
 have hall6:S.C.all.length < 900000:=by
  have h1:=HH.out.few
  have h2:=HH.out.room
  have h3:=HH.out.mark
  simp only [Ca.all,List.length_append]
  omega
 have hnew6:∀ e∈S.C.all,e.key≠N:=fun e he=>by
  have hN:=HN.out
  rcases List.mem_append.1 he with he | he
  ·have:=HH.out.old e he;omega
  ·obtain ⟨i,hi⟩:=List.mem_iff_getElem?.1 he
   have h1:=HH.out.keys i e hi
   have h2:=(List.getElem?_eq_some_iff.1 hi).1
   omega
 have hNb:2≤N∧N < 4096:=⟨N0.out,by have:=HN4.out;have:=HQ1.out;omega⟩
 have CH:=Lib.hid (caHold_new (w:=w6.drew) (kind:=2) (hcache6.keep (fun _ _=>rfl)) hnew6 (WalkArith.wf_i64 (by omega)) hlv6 hall6)
 have HROOT6:=Lib.hid hroot6
 have HFILE6:=Lib.hid hfile6
 have HOWN6:=Lib.hid hown6
 have HC6:=Lib.hid (show w6.cell? ⟨s,2,none⟩=some (.pointer (some ⟨c,0,none⟩)) from cell_sets_of hroot6 rfl)
 have HGC6:=Lib.hid (rangeAt_all hgc6)
 have HGCB:=Lib.hid (show gc ∉ caF c bm S.C∧s ∉ caF c bm S.C from ⟨fun hm=>by have:=HH.out.lt gc (mem_stF.2 (.inr (.inr (.inl hm))));have:=HGW.out;omega,HN1.out.2.1⟩)
 have HGQ:=Lib.hid (And.intro hgqs hgqc)
 have HNB:=Lib.hid hNb
 have HSV:=Lib.hid hsv
 have HSZ6:=Lib.hid hsize
 have hk6:Keeps (stF s bf c bm (.slice sa m scp) S) w w6:=by
  rw [hw6]
  have k1:Keeps (stF s bf c bm (.slice sa m scp) S) w (w4.drew.alloc (.cells #[.int .i64 2,.slice la load.length lc] 74 (0,0))):=(HK4.out.trans (G:=[]) KA.out (by simp)).mono (by simp)
  have k2:Keeps (stF s bf c bm (.slice sa m scp) S) w w5:=k1.grown HGR5.out (fun k hk=>.inl (mem_stF.2 (.inr (.inr (.inr hk)))))
  exact k2.setCell (p:=⟨s,3,none⟩) (.inl (mem_stF.2 (.inl rfl))) _
 have HK6:=Lib.hid hk6
 have HLV6:=Lib.hid hlv6
 rw [show w5.setCell ⟨s,3,none⟩ (.slice (some ⟨gq,0,none⟩) (m+1) cap)=w6 from hw6.symm]
 clear hw6 hoth6 hs4 hfar hroot6 hsize hgqs hgqc hcache6 hfile6 hlv6 hgc6 hown6 hall6 hnew6 hNb hsv hk6 hHeld c3 f3 m3 g3
 go_upto_region 13 with fail
 refine wp_region_held_drew (S:=(fun w'=>w'.cell? ⟨s,2,none⟩=some (.pointer (some ⟨c,0,none⟩))∧w'.rangeAt gc 0 [.int .i64 2,.slice la load.length lc])) (by kernel_rfl) ?_ (fun hHeld=>?_)
 ·exact ⟨HC6.out,HGC6.out⟩
 refine tk 0 ?_
 refine tk 1 ?_
 refine tk 2 ?_
 refine tk 3 ?_
 refine tk 4 ?_
 refine tkb 5 rfl (yieldsIf_load_mid (by rfl) 74 (.tmp 10) rfl gc 0 rfl [.int .i64 2,.slice la load.length lc] _ (fun _ h=>h.2) Tryz.underlying74 rfl sz2) ?_
 clear hHeld
 refine ac 6 fun K hK=>?_
 go_simp
 refine CH.out.mono ?_
 rintro e w7 ⟨rfl,eb,hc7,heb,hk7⟩
 have hk67:Keeps (caF c bm S.C) w6 w7:=⟨hk7.os,hk7.tape,hk7.output,hk7.size,hk7.block⟩
 have HK7:=Lib.hid hk67
 have HC7:=Lib.hid hc7
 have HEB:=Lib.hid (show w6.heap.size≤eb from heb)
 clear hk7 hk67 hc7 heb CH
 refine hK.out _ _ ?_ (fun hHeld=>?_)
 ·have hs7:=HK7.out.block s (lt_of_heap HROOT6.out) HGCB.out.2
  refine ⟨(cell_of_heap hs7 2).trans HC6.out,rangeAt_of_heap HGC6.out (HK7.out.block gc ?_ HGCB.out.1)⟩
  have:=lt_of_heap HC4.out
  have:=HSZ6.out
  omega
 clear hK K
 try simp only [zA,zB,zC,zD,zE,zF,zG,zH]
 refine wpAnyH_done (by kernel_rfl) ?_ _
 clear hHeld
 go_wp2_with fail
 go_ret2
 refine ⟨rfl,eb,_,sv',⟨?_,?_,HC7.out,?_,?_,HH.out.old,HH.out.mark,?_,HH.out.few,?_,?_⟩,?_,?_⟩
 ·exact (HK7.out.block s (lt_of_heap HROOT6.out) HGCB.out.2).trans HROOT6.out
 ·exact (HK7.out.block bf (lt_of_heap HFILE6.out) HN1.out.2.2.1).trans HFILE6.out
 ·have e1:(S.stage ⟨eb,N,2,.slice la load.length lc,load⟩).C.kept=S.C.kept++[⟨eb,N,2,.slice la load.length lc,load⟩]:=rfl
  rw [e1,stagedC_snoc,List.length_append,← HM.out]
  refine ownsRow_keep HOWN6.out (fun k hk=>HK7.out.block k (HOWN6.out.lt k hk).2 (fun hm=>?_))
  rw [HSV.out] at hk
  simp only [Value.ownBlock,Option.some.injEq] at hk
  exact HGQ.out.2 k hm hk
 ·intro i e hi
  have e1:(S.stage ⟨eb,N,2,.slice la load.length lc,load⟩).C.kept=S.C.kept++[⟨eb,N,2,.slice la load.length lc,load⟩]:=rfl
  rw [e1] at hi
  by_cases hlt:i < S.C.kept.length
  ·rw [List.getElem?_append_left hlt] at hi
   exact HH.out.keys i e hi
  ·rw [List.getElem?_append_right (by omega)] at hi
   have h0:i - S.C.kept.length=0:=by
    have:=(List.getElem?_eq_some_iff.1 hi).1
    simp at this
    omega
   rw [h0] at hi
   simp only [List.getElem?_cons_zero,Option.some.injEq] at hi
   subst hi
   show N=S.f.sup.mark+i
   rw [HN.out]
   omega
 ·have e1:(S.stage ⟨eb,N,2,.slice la load.length lc,load⟩).C.kept=S.C.kept++[⟨eb,N,2,.slice la load.length lc,load⟩]:=rfl
  rw [e1,List.length_append]
  have h1:=HN.out
  have h2:=HNB.out
  show S.f.sup.mark+((S.C.kept.length+1:Nat):Int)≤4096
  omega
 ·have hsw:s < w.heap.size:=lt_of_heap HH.out.root
  have hbw:bf < w.heap.size:=lt_of_heap HH.out.file
  have hle:w.heap.size≤eb:=Nat.le_trans (Nat.le_trans HK4.out.size HSZ6.out) HEB.out
  have hmem:∀ k,k∈caF c bm (S.stage ⟨eb,N,2,.slice la load.length lc,load⟩).C→k∈caF c bm S.C∨w.heap.size≤k:=fun k hk=>by
   have e1:(S.stage ⟨eb,N,2,.slice la load.length lc,load⟩).C.all=S.C.all++[⟨eb,N,2,.slice la load.length lc,load⟩]:=by simp [St.stage,Ca.all]
   rcases mem_caF.1 hk with rfl | rfl | ⟨e,he,rfl⟩ | ⟨e,he,hv⟩
   ·exact .inl (mem_caF.2 (.inl rfl))
   ·exact .inl (mem_caF.2 (.inr (.inl rfl)))
   ·rw [e1] at he
    rcases List.mem_append.1 he with he | he
    ·exact .inl (mem_caF.2 (.inr (.inr (.inl ⟨e,he,rfl⟩))))
    ·obtain rfl:e=⟨eb,N,2,.slice la load.length lc,load⟩:=by simpa using he
     exact .inr hle
   ·rw [e1] at he
    rcases List.mem_append.1 he with he | he
    ·exact .inl (mem_caF.2 (.inr (.inr (.inr ⟨e,he,hv⟩))))
    ·obtain rfl:e=⟨eb,N,2,.slice la load.length lc,load⟩:=by simpa using he
     exact .inr (HLN.out k hv).1
  refine ⟨HN1.out.1,fun hm=>(hmem s hm).elim HN1.out.2.1 (fun h=>by omega),fun hm=>(hmem bf hm).elim HN1.out.2.2.1 (fun h=>by omega),?_,?_⟩
  ·rw [HSV.out]
   simp only [Value.ownBlock,ne_eq,Option.some.injEq]
   exact HGQ.out.1
  ·rw [HSV.out]
   simp only [Value.ownBlock,ne_eq,Option.some.injEq]
   rcases HAT5.out with e | e
   ·exact fun e1=>HN1.out.2.2.2.2 (by rw [e,e1])
   ·have:=HK4.out.size;omega
 ·intro k hk e0
  rw [HSV.out] at e0
  simp only [Value.ownBlock,Option.some.injEq] at e0
  have e1:(S.stage ⟨eb,N,2,.slice la load.length lc,load⟩).C.all=S.C.all++[⟨eb,N,2,.slice la load.length lc,load⟩]:=by simp [St.stage,Ca.all]
  have hg6:=(HOWN6.out.lt gq (by rw [HSV.out];rfl)).2
  rcases mem_caF.1 hk with h | h | ⟨e,he,h⟩ | ⟨e,he,hv⟩
  ·exact HGQ.out.2 k (mem_caF.2 (.inl h)) e0
  ·exact HGQ.out.2 k (mem_caF.2 (.inr (.inl h))) e0
  ·rw [e1] at he
   rcases List.mem_append.1 he with he | he
   ·exact HGQ.out.2 k (mem_caF.2 (.inr (.inr (.inl ⟨e,he,h⟩)))) e0
   ·obtain rfl:e=⟨eb,N,2,.slice la load.length lc,load⟩:=by simpa using he
    have h:eb=k:=h
    have:=HEB.out
    omega
  ·rw [e1] at he
   rcases List.mem_append.1 he with he | he
   ·exact HGQ.out.2 k (mem_caF.2 (.inr (.inr (.inr ⟨e,he,hv⟩)))) e0
   ·obtain rfl:e=⟨eb,N,2,.slice la load.length lc,load⟩:=by simpa using he
    obtain ⟨l1,l2⟩:=HLN.out k hv
    rcases HAT5.out with e2 | e2
    ·have:=(HH.out.staged.lt gq e2).2;omega
    ·omega
 ·exact HK6.out.trans (G:=caF c bm S.C) HK7.out (fun k hk=>.inl (mem_stF.2 (.inr (.inr (.inl hk)))))
 ·intro k hk
  have hle:w.heap.size≤eb:=Nat.le_trans (Nat.le_trans HK4.out.size HSZ6.out) HEB.out
  have e1:(S.stage ⟨eb,N,2,.slice la load.length lc,load⟩).C.all=S.C.all++[⟨eb,N,2,.slice la load.length lc,load⟩]:=by simp [St.stage,Ca.all]
  rcases mem_stF.1 hk with h | h | h | h
  ·exact .inl (mem_stF.2 (.inl h))
  ·exact .inl (mem_stF.2 (.inr (.inl h)))
  ·rcases mem_caF.1 h with h | h | ⟨e,he,h⟩ | ⟨e,he,hv⟩
   ·exact .inl (mem_stF.2 (.inr (.inr (.inl (mem_caF.2 (.inl h))))))
   ·exact .inl (mem_stF.2 (.inr (.inr (.inl (mem_caF.2 (.inr (.inl h)))))))
   ·rw [e1] at he
    rcases List.mem_append.1 he with he | he
    ·exact .inl (mem_stF.2 (.inr (.inr (.inl (mem_caF.2 (.inr (.inr (.inl ⟨e,he,h⟩))))))))
    ·obtain rfl:e=⟨eb,N,2,.slice la load.length lc,load⟩:=by simpa using he
     exact .inr (by have h:eb=k:=h;omega)
   ·rw [e1] at he
    rcases List.mem_append.1 he with he | he
    ·exact .inl (mem_stF.2 (.inr (.inr (.inl (mem_caF.2 (.inr (.inr (.inr ⟨e,he,hv⟩))))))))
    ·obtain rfl:e=⟨eb,N,2,.slice la load.length lc,load⟩:=by simpa using he
     exact .inr (HLN.out k hv).1
  ·rw [HSV.out] at h
   simp only [Value.ownBlock,Option.some.injEq] at h
   rcases HAT5.out with e2 | e2
   ·exact .inl (mem_stF.2 (.inr (.inr (.inr (by rw [e2,h])))))
   ·exact .inr (by have:=HK4.out.size;omega)
end Go.Proofs.YtakaocenbempmaaGreatDoor
