/-
  Lemmas of a claim, bundle Z: XQC XPrJ XPrK.
-/
import Derived.Test.YtakaocenbempmaaGreatDoorPfY
import Derived.Test.YtakaocenbempmaaGreatDoorPfX
import Derived.Test.YtakaocenbempmaaGreatDoorPfU
set_option linter.unusedVariables false
set_option linter.unusedSimpArgs false
namespace Go.Proofs.YtakaocenbempmaaGreatDoor
open Go.RowKit
theorem decPost_any {w0 w:World} {r:Ending} {R:Option Nde} (h:DecPost w0 w r R):∃ (nd:Nde) (a:Option Addr) (c:Nat) (code:Int),r=.returned (.tuple #[.agg (nodeC nd (.slice a nd.val.length c)).toArray,.int .i64 code])∧OwnB w (.slice a nd.val.length c) nd.val∧(∀ k,(Value.slice a nd.val.length c).ownBlock=some k→w0.heap.size≤k)∧(R=none∧code=90∧nd=nd0∨R=some nd∧code=0):=by
 match R,h with
 | none,h=>exact ⟨nd0,none,0,90,h,World.ownsRow_nil _ _ _ _,fun k hk=>by simp [Value.ownBlock] at hk,.inl ⟨rfl,rfl,rfl⟩⟩
 | some nd,⟨a,c,h1,h2,h3⟩=>exact ⟨nd,a,c,0,h1,h2,h3,.inr ⟨rfl,rfl⟩⟩
set_option maxRecDepth 100000 in
set_option maxHeartbeats 12800000 in
theorem qStands_in {w:World} {kv lv:Value} {L:List (Int × List UInt8)} {P:Nat→Prop} {key:List UInt8} (hp:PagesIn w kv lv L P) (hL:L.length≤1048576) (hld:∀ p∈L,p.2.length≤1048576) (hk:key.length=32) (i:Nat) (hi:i < L.length) (above stated:Int) (hab:((i+2:Nat):Int) < above) (n:Nat) (hn:n≤256) :
  Calls Tryz.prog 61 #[.agg #[kv,lv],.int .i64 ((i+2:Nat):Int),.int .i64 above,.int .i64 stated,.agg (key.map B).toArray,.int .i64 n] w fun e w'=>StandsPost w w' e (standsL L ((i+2:Nat):Int) above stated key n)∧Keeps [] w w':=by
 obtain ⟨p,hpi⟩:∃ p,L[i]?=some p:=⟨_,List.getElem?_eq_getElem hi⟩
 obtain ⟨R,hR⟩:∃ R,R=decodeL p.1 p.2:=⟨_,rfl⟩
 obtain ⟨SR,hSR⟩:∃ SR,SR=standsL L ((i+2:Nat):Int) above stated key n:=⟨_,rfl⟩
 have hSRv:SR=standsOf stated key n R:=by
  rw [hSR,standsL,if_neg (by omega),show ((((i+2:Nat):Int) - 2).toNat)=i by omega,hpi,hR]
 rw [← hSR]
 obtain ⟨N,hN⟩:∃ N,N=L.length:=⟨_,rfl⟩
 obtain ⟨a,c,a2,c2,rfl,rfl⟩:=hp.forms
 obtain ⟨gk,ok,rfl,hgk,hrk,hPk⟩:=hp.kinds.at (by rw [List.length_map];omega)
 obtain ⟨vs,hvl,hvs,hve⟩:=hp.loads
 obtain ⟨gl,ol,rfl,hgl,hrl,hPl⟩:=hvs.at (by omega)
 obtain ⟨lv,hlv⟩:∃ lv,vs[i]?=some lv:=⟨_,List.getElem?_eq_getElem (by omega)⟩
 obtain ⟨hby,hbP⟩:=hve i lv p hlv hpi
 obtain ⟨la,lc,rfl,_,_⟩:=hby.form
 have hck:w.cell? ⟨gk,ok+i,none⟩=some (.int .i64 p.1):=hrk i _ (by rw [List.getElem?_map,hpi];rfl)
 have hcl:w.cell? ⟨gl,ol+i,none⟩=some (.slice la p.2.length lc):=hrl i _ hlv
 have hpl:p.2.length≤1048576:=hld p (List.mem_of_getElem? hpi)
 have hdec:=fun (wx:World) (h:Keeps [] w wx)=>r9Decode_any (kind:=p.1) (hby.keeps h (by simp)) hpl
 rw [← hR] at hdec
 rw [← hN] at hi hL ⊢
 obtain ⟨pk,hpk⟩:∃ x,x=p.1:=⟨_,rfl⟩
 rw [← hpk] at hdec hck
 obtain ⟨Z,hZ,hZi,hZ1,hZb⟩:∃ Z:List Value,Z.length=102∧(Tryz.prog.info? 90).map (fun i=>(i.zero,i.size,i.bytes))=some (some (.agg Z.toArray),102,160)∧(∀ v∈Z,v.oneCell'=true)∧Z=nodeC nd0 (.slice none 0 0):=⟨_,nodeC_length nd0_ok _,info_node,nodeC_ones,rfl⟩
 have hbz:=run_build_node0
 rw [← hZb] at hbz
 obtain ⟨KV,hKV⟩:∃ x,x=Value.slice (some ⟨gk,ok,none⟩) N c:=⟨_,rfl⟩
 obtain ⟨LV,hLV⟩:∃ x,x=Value.slice (some ⟨gl,ol,none⟩) N c2:=⟨_,rfl⟩
 obtain ⟨q6,hq6⟩:∃ x,x=w.heap.size:=⟨_,rfl⟩
 obtain ⟨wa,hwa⟩:∃ x,x=w.alloc (.cells #[.slice (some ⟨gk,ok,none⟩) N c,.slice (some ⟨gl,ol,none⟩) N c2] 32 (0,0)):=⟨_,rfl⟩
 obtain ⟨q10,hq10⟩:∃ x,x=w.heap.size+1:=⟨_,rfl⟩
 have eq10:q10=wa.heap.size:=by rw [hwa,hq10];simp
 obtain ⟨wb,hwb⟩:∃ x,x=wa.alloc (.cells (key.map B).toArray 60 (0,0)):=⟨_,rfl⟩
 obtain ⟨q12,hq12⟩:∃ x,x=wb.heap.size:=⟨_,rfl⟩
 have e12:q12=w.heap.size+2:=by rw [hq12,hwb,hwa];simp
 obtain ⟨w1,hw1⟩:∃ x,x=wb.alloc (.cells Z.toArray 90 (0,0)):=⟨_,rfl⟩
 have k1:Keeps [] w w1:=by rw [hw1,hwb,hwa];exact (((Keeps.refl _ _).alloc _).alloc _).alloc _
 have b6:w1.heap[q6]?=some (.cells #[.slice (some ⟨gk,ok,none⟩) N c,.slice (some ⟨gl,ol,none⟩) N c2] 32 (0,0)):=by rw [hw1];exact (heap_old_at (by rw [← hq12];omega)).trans (by rw [hwb];exact (heap_old_at (by rw [← eq10];omega)).trans (by rw [hwa];exact heap_new_at hq6))
 have b10:Blk w1 q10 60 key:=by rw [hw1];exact (heap_old_at (by rw [← hq12];omega)).trans (by rw [hwb];exact heap_new_at eq10)
 have b12:w1.heap[q12]?=some (.cells Z.toArray 90 (0,0)):=by rw [hw1];exact heap_new_at hq12
 have hnx:=fun (wx:World)=>qNext_any (w:=wx) (a:=some ⟨gk,ok,none⟩) (a2:=some ⟨gl,ol,none⟩) (n:=N) (c:=c) (n2:=N) (c2:=c2) (by omega)
 obtain ⟨M,hM⟩:∃ M:Nat,M=2+N:=⟨_,rfl⟩
 rw [← hM] at hnx
 obtain ⟨pg,hpg⟩:∃ pg:Nat,pg=i+2:=⟨_,rfl⟩
 rw [← hpg] at hab ⊢
 have p1:¬ (pg:Int) < 2:=by omega
 have p2:¬ (M:Int)≤(pg:Int):=by omega
 have p3:¬ above≤(pg:Int):=by omega
 have p4:IntKind.i64.wrap ((pg:Int) - 2)=(i:Int):=by rw [IntWalk.i64_in _ (by omega)];omega
 have i0:(0:Int)≤(i:Int):=by omega
 have i1:(i:Int) < (N:Int):=by omega
 have hall:=fun (wx:World) (h:Keeps [] w1 wx)=>(show (wx.cell? ⟨q6,0,none⟩=some (.slice (some ⟨gk,ok,none⟩) N c)∧wx.cell? ⟨q6,1,none⟩=some (.slice (some ⟨gl,ol,none⟩) N c2))∧wx.cell? ⟨gk,ok+i,none⟩=some (.int .i64 pk)∧wx.cell? ⟨gl,ol+i,none⟩=some (.slice la p.2.length lc) from by
  have hb:=(h.block q6 (lt_of_heap b6) (by simp)).trans b6
  refine ⟨⟨(pages_cells hb).1,(pages_cells hb).2.1⟩,?_,?_⟩
  ·rw [World.cell?_of_block (a:=⟨gk,ok+i,none⟩) ((h.block gk (by have:=k1.size;omega) (by simp)).trans (k1.block gk hgk (by simp)))];exact hck
  ·rw [World.cell?_of_block (a:=⟨gl,ol+i,none⟩) ((h.block gl (by have:=k1.size;omega) (by simp)).trans (k1.block gl hgl (by simp)))];exact hcl)
 have HALL:=Lib.hid hall
 have HDEC:=Lib.hid hdec
 have HNX:=Lib.hid hnx
 have HZ:=Lib.hid (And.intro hZ hZ1)
 have HZI:=Lib.hid hZi
 have HBZ:=Lib.hid hbz
 have HQ6:=Lib.hid hq6
 have HWA:=Lib.hid hwa
 have HQ10:=Lib.hid hq10
 have HWB:=Lib.hid hwb
 have HQ12:=Lib.hid hq12
 have HE12:=Lib.hid e12
 have HW1:=Lib.hid hw1
 have HK1:=Lib.hid k1
 have HB10:=Lib.hid b10
 have HB12:=Lib.hid b12
 have HR6:=Lib.hid (pages_cells b6).2.2
 have HS6:=Lib.hid (show (Tryz.prog.info? 32).map (·.size)=some ([Value.slice (some ⟨gk,ok,none⟩) N c,.slice (some ⟨gl,ol,none⟩) N c2]:List Value).length from size_rpages)
 have HSZ:=Lib.hid (show (Tryz.prog.info? 90).map (·.size)=some Z.length by rw [hZ];exact size_node)
 have HSR:=Lib.hid hSRv
 have HKL:=Lib.hid hk
 have HSK:=Lib.hid (size_key_of hk)
 have HR:=Lib.hid hR
 clear hZ hZi hZ1 hZb hbz hq6 hwa hq10 eq10 hwb hq12 e12 hw1 k1 b6 b10 b12 hnx hM hpg hall hdec hKV hLV hSR hSRv hR hp hgk hrk hPk hvl hvs hve hgl hrl hPl hlv hby hbP hck hcl hpl hN hpi hpk hld hk
 go_enter Tryz.func61,Tryz.ntmps61
 go_upto_region 1 with (first | (refine wl_alloc rfl 90 rfl ?_;refine ⟨_,_,run_alloc _ HZI.out,?_⟩;try simp only [zA,zB,zC,zD,zE,zF,zG,zH]))
 try simp only [Value.cells]
 rw [← HWA.out,← HWB.out,← HW1.out,← HQ12.out,← HQ10.out,← HQ6.out]
 go_upto_region 3 with (first | (refine Go.BigFrame.wpList_want (by rfl) fun K hK=>wp_load_mid 32 (.tmp 6) rfl q6 0 (by rfl) [.slice (some ⟨gk,ok,none⟩) N c,.slice (some ⟨gl,ol,none⟩) N c2] _ HR6.out Tryz.underlying32 rfl HS6.out (hK _ _ ?_);try simp only [zA,zB,zC,zD,zE,zF,zG,zH]) | (go_at_call 8;refine (HNX.out _).mono ?_;rintro e w2 ⟨rfl,hk2⟩))
 have HK2:=Lib.hid hk2
 clear hk2
 go_cut [14,15] (fun v14 v15 wx=>∃ (g14:Nat) (nd:Nde) (na:Option Addr) (nc:Nat) (code:Int),v14=.pointer (some ⟨g14,0,none⟩)∧v15=.int .i64 code∧wx.heap[g14]?=some (.cells (nodeC nd (.slice na nd.val.length nc)).toArray 90 (0,0))∧w2.heap.size≤g14∧OwnB wx (.slice na nd.val.length nc) nd.val∧(∀ k,(Value.slice na nd.val.length nc).ownBlock=some k→w2.heap.size≤k∧k≠g14)∧(R=none∧code=90∧nd=nd0∨R=some nd∧code=0)∧Keeps [] w2 wx)
 case first =>
  refine wp_region_held_drew (S:=(fun w'=>((w'.cell? ⟨q6,0,none⟩=some (.slice (some ⟨gk,ok,none⟩) N c)∧w'.cell? ⟨q6,1,none⟩=some (.slice (some ⟨gl,ol,none⟩) N c2))∧w'.cell? ⟨gk,ok+i,none⟩=some (.int .i64 pk)∧w'.cell? ⟨gl,ol+i,none⟩=some (.slice la p.2.length lc))∧Keeps [] w2 w')) (by kernel_rfl) ?_ (fun hHeld=>?_)
  ·exact ⟨HALL.out _ HK2.out.drew,(Keeps.refl _ _).drew⟩
  refine tk 0 ?_
  refine tk 1 ?_
  refine tk 2 ?_
  refine tk 3 ?_
  refine tk 4 ?_
  refine tk 5 ?_
  refine tk 6 ?_
  refine tk 7 ?_
  refine tk 8 ?_
  refine tk 9 ?_
  refine tk 10 ?_
  refine tk 11 ?_
  have HW2:=Lib.hid (show Keeps [] w w2.drew from (HK1.out.trans (G:=[]) HK2.out (by simp)).drew)
  refine wpAnyH_ready (rs:=[12,16]) (by kernel_rfl) (by simp) ?_
  refine AllReadyH.cons rfl (fun K hK=>?_) (AllReadyH.cons rfl (fun K hK=>?_) AllReadyH.nil)
  ·go_simp
   refine (HDEC.out _ HW2.out).mono ?_
   rintro e w3 ⟨hd,hk3⟩
   obtain ⟨nd,na,nc,code,rfl,ho,hf,hRR⟩:=decPost_any hd
   have HK3:=Lib.hid (show Keeps [] w2 w3 from ((Keeps.refl [] w2).drew).trans (G:=[]) hk3 (by simp))
   have HO:=Lib.hid ho
   have HF:=Lib.hid hf
   have HRR:=Lib.hid hRR
   have HND:=Lib.hid (show nd.ok from by
    rcases hRR with ⟨_,_,rfl⟩ | ⟨h,_⟩
    ·exact nd0_ok
    ·rw [HR.out] at h;exact decodeL_ok h)
   clear hd hk3 ho hf hRR
   refine hK.out _ _ ?_ (fun hHeld=>?_)
   ·exact ⟨HALL.out _ (HK2.out.trans (G:=[]) HK3.out (by simp)),HK3.out⟩
   clear hK K
   try simp only [zA,zB,zC,zD,zE,zF,zG,zH]
   refine tk 13 ?_
   refine tk 14 ?_
   refine tk 15 ?_
   refine ac 16 fun K hK=>?_
   (refine st_alloc rfl 90 rfl ?_;refine ⟨_,_,run_alloc _ HZI.out,?_⟩;(try simp only [Value.cells]))
   have hk4:Keeps [] w2 (w3.alloc (.cells Z.toArray 90 (0,0))):=HK3.out.alloc _
   refine hK.out _ _ ?_ (fun hHeld=>?_)
   ·exact ⟨HALL.out _ (HK2.out.trans (G:=[]) hk4 (by simp)),hk4⟩
   clear hK K
   try simp only [zA,zB,zC,zD,zE,zF,zG,zH]
   refine ac 17 fun K hK=>?_
   (refine st_store rfl 90 (.tmp 14) (.tmp 44) rfl ?_;refine ⟨_,run_store_node (heap_new_at rfl) HZ.out.1 (nodeC_length HND.out _) nodeC_ones,?_⟩;try simp only [zA,zB,zC,zD,zE,zF,zG,zH])
   have hk5:Keeps [] w2 ((w3.alloc (.cells Z.toArray 90 (0,0))).setCells w3.heap.size 0 (nodeC nd (.slice na nd.val.length nc))):=hk4.setCells (.inr HK3.out.size) _ _
   refine hK.out _ _ ?_ (fun hHeld=>?_)
   ·exact ⟨HALL.out _ (HK2.out.trans (G:=[]) hk5 (by simp)),hk5⟩
   clear hK K
   try simp only [zA,zB,zC,zD,zE,zF,zG,zH]
   refine tk 18 ?_
   refine wpAnyH_done (by kernel_rfl) ?_ _
   clear hHeld
   go_wp2_with fail
   go_meet
   case rel =>
    refine ⟨w3.heap.size,nd,na,nc,code,rfl,rfl,store_all (heap_new_at rfl) (by rw [HZ.out.1,nodeC_length HND.out]),HK3.out.size,?_,fun k hk=>⟨Nat.le_trans (by simp) (HF.out k hk),by have:=(World.ownsRow.lt HO.out k hk).2;omega⟩,HRR.out,hk5⟩
    exact ownsRow_keep HO.out (fun k hk=>by
     have:=(World.ownsRow.lt HO.out k hk).2
     rw [heap_setCells_other _ _ _ (by omega),heap_old_at this])
  ·(refine st_alloc rfl 90 rfl ?_;refine ⟨_,_,run_alloc _ HZI.out,?_⟩;(try simp only [Value.cells]))
   have hk3:Keeps [] w2 (w2.drew.alloc (.cells Z.toArray 90 (0,0))):=((Keeps.refl [] w2).drew).alloc _
   have HK3:=Lib.hid hk3
   refine hK.out _ _ ?_ (fun hHeld=>?_)
   ·exact ⟨HALL.out _ (HK2.out.trans (G:=[]) hk3 (by simp)),hk3⟩
   clear hK K
   try simp only [zA,zB,zC,zD,zE,zF,zG,zH]
   refine ac 12 fun K hK=>?_
   go_simp
   refine (HDEC.out _ (HW2.out.alloc _)).mono ?_
   rintro e w4 ⟨hd,hk4⟩
   obtain ⟨nd,na,nc,code,rfl,ho,hf,hRR⟩:=decPost_any hd
   have hb4:w4.heap[w2.heap.size]?=some (.cells Z.toArray 90 (0,0)):=(hk4.block _ (by simp) (by simp)).trans (heap_new_at rfl)
   have HK4:=Lib.hid (hk3.trans (G:=[]) hk4 (by simp))
   have HB4:=Lib.hid hb4
   have HO:=Lib.hid ho
   have HF:=Lib.hid hf
   have HRR:=Lib.hid hRR
   have HND:=Lib.hid (show nd.ok from by
    rcases hRR with ⟨_,_,rfl⟩ | ⟨h,_⟩
    ·exact nd0_ok
    ·rw [HR.out] at h;exact decodeL_ok h)
   clear hd hk4 ho hf hRR hk3 hb4
   refine hK.out _ _ ?_ (fun hHeld=>?_)
   ·exact ⟨HALL.out _ (HK2.out.trans (G:=[]) HK4.out (by simp)),HK4.out⟩
   clear hK K
   try simp only [zA,zB,zC,zD,zE,zF,zG,zH]
   refine tk 13 ?_
   refine tk 14 ?_
   refine tk 15 ?_
   refine ac 17 fun K hK=>?_
   (refine st_store rfl 90 (.tmp 14) (.tmp 44) rfl ?_;refine ⟨_,run_store_node HB4.out HZ.out.1 (nodeC_length HND.out _) nodeC_ones,?_⟩;try simp only [zA,zB,zC,zD,zE,zF,zG,zH])
   have hk5:Keeps [] w2 (w4.setCells w2.heap.size 0 (nodeC nd (.slice na nd.val.length nc))):=HK4.out.setCells (.inr (Nat.le_refl _)) _ _
   refine hK.out _ _ ?_ (fun hHeld=>?_)
   ·exact ⟨HALL.out _ (HK2.out.trans (G:=[]) hk5 (by simp)),hk5⟩
   clear hK K
   try simp only [zA,zB,zC,zD,zE,zF,zG,zH]
   refine tk 18 ?_
   refine wpAnyH_done (by kernel_rfl) ?_ _
   clear hHeld
   go_wp2_with fail
   go_meet
   case rel =>
    have hfo:∀ k,(Value.slice na nd.val.length nc).ownBlock=some k→w2.heap.size < k:=fun k hk=>by have:=HF.out k hk;simp at this;omega
    refine ⟨w2.heap.size,nd,na,nc,code,rfl,rfl,store_all HB4.out (by rw [HZ.out.1,nodeC_length HND.out]),Nat.le_refl _,?_,fun k hk=>⟨Nat.le_of_lt (hfo k hk),by have:=hfo k hk;omega⟩,HRR.out,hk5⟩
    exact ownsRow_keep HO.out (fun k hk=>by
     have:=hfo k hk
     rw [heap_setCells_other _ _ _ (by omega)])
 case rest =>
  obtain ⟨g14,nd,na,nc,code,rfl,rfl,hb14,hg14,hO,hOf,hRR,hkc⟩:=hcut
  obtain ⟨KK,hKK⟩:∃ x,x=nodeC nd (.slice na nd.val.length nc):=⟨_,rfl⟩
  have hnd:nd.ok:=by
   rcases hRR with ⟨_,_,rfl⟩ | ⟨h,_⟩
   ·exact nd0_ok
   ·rw [HR.out] at h;exact decodeL_ok h
  have hKl:KK.length=102:=by rw [hKK];exact nodeC_length hnd _
  have hK1:∀ v∈KK,v.oneCell'=true:=by rw [hKK];exact nodeC_ones
  have hbK:wc.heap[g14]?=some (.cells KK.toArray 90 (0,0)):=by rw [hKK];exact hb14
  have hkw:Keeps [] w wc:=(HK1.out.trans (G:=[]) HK2.out (by simp)).trans (G:=[]) hkc (by simp)
  have hb12:wc.heap[q12]?=some (.cells Z.toArray 90 (0,0)):=((HK2.out.trans (G:=[]) hkc (by simp)).block q12 (lt_of_heap HB12.out) (by simp)).trans HB12.out
  have hb10:Blk wc q10 60 key:=HB10.out.keeps (HK2.out.trans (G:=[]) hkc (by simp)) (by simp)
  have hq12w:w.heap.size≤q12:=by have:=HE12.out;omega
  have hq1214:q12 < g14:=by have:=lt_of_heap HB12.out;have:=HK2.out.size;omega
  have hw2w:w.heap.size≤w2.heap.size:=(HK1.out.trans (G:=[]) HK2.out (by simp)).size
  have HKKV:=Lib.hid (And.intro hKK (And.intro hKl hK1))
  have HND:=Lib.hid hnd
  have HBK:=Lib.hid hbK
  have HB14:=Lib.hid hb14
  have HKW:=Lib.hid hkw
  have HB12c:=Lib.hid hb12
  have HB10c:=Lib.hid hb10
  have hq122:q12 < w2.heap.size:=by have:=lt_of_heap HB12.out;have:=HK2.out.size;omega
  have HQ:=Lib.hid (And.intro hq12w (And.intro hq1214 (And.intro hw2w hq122)))
  have HOWN:=Lib.hid (And.intro hO hOf)
  have HSKK:=Lib.hid (show (Tryz.prog.info? 90).map (·.size)=some KK.length by rw [hKl];exact size_node)
  clear hKK hKl hK1 hbK hb14 hg14 hO hOf hkc hkw hb12 hb10 hq12w hq1214 hw2w hq122 hnd HB12 HB10 HK1 HK2 HALL HDEC HNX p1 p2 p3 p4 i0 i1 hab
  have hE:SR=none→∀ wx:World,Keeps [] wc wx→(StandsPost w (wx.setCells q12 0 Z) (.returned (.tuple #[.agg Z.toArray,.bool false])) SR∧Keeps [] w (wx.setCells q12 0 Z)):=fun e wx hx=>by
   rw [e]
   exact ⟨⟨Z,rfl,HZ.out.1,HZ.out.2⟩,(HKW.out.trans (G:=[]) hx (by simp)).setCells (.inr HQ.out.1) _ _⟩
  have HE:=Lib.hid hE
  clear hE
  rcases hRR with ⟨hRn,rfl,_⟩ | ⟨hRs,rfl⟩
  ·have HX:=Lib.hid (show SR=none by rw [HSR.out,hRn];rfl)
   clear hRn
   go_wp2_with (first | (refine wl_build rfl 90 #[] #[] rfl (by simp [Act.eval]) ?_;refine ⟨_,_,HBZ.out _,?_⟩;try simp only [zA,zB,zC,zD,zE,zF,zG,zH]) | (refine wl_store rfl 90 (.tmp 12) (.tmp 48) rfl ?_;refine ⟨_,run_store_node HB12c.out HZ.out.1 HZ.out.1 HZ.out.2,?_⟩;try simp only [zA,zB,zC,zD,zE,zF,zG,zH]))
   refine bodyPost_ret (results_row2 (cs:=Z) rfl rfl rfl (rangeAt_all (store_all HB12c.out rfl)) Tryz.underlying90 rfl HSZ.out) rfl ?_
   exact HE.out HX.out wc (Keeps.refl _ _)
  ·have hcs:(nd.kind=1∧nd.lc=0∧nd.rc=0)∨(nd.kind=2∧∃ m:Nat,nd.lc+nd.rc=m∧m≤4096):=by
    rw [HR.out] at hRs
    rcases decodeL_cases hRs with ⟨k,v,rfl,_,_⟩ | ⟨lp,lc,ls,rp,rc,rs,rfl,_,_,_,hsum,_,_⟩
    ·exact .inl ⟨rfl,rfl,rfl⟩
    ·exact .inr ⟨rfl,lc+rc,by show (lc:Int)+(rc:Int)=_;omega,hsum⟩
   have hlr:0≤nd.lc+nd.rc∧nd.lc+nd.rc≤4096:=by rcases hcs with ⟨_,h1,h2⟩ | ⟨_,m,h1,h2⟩ <;> omega
   have hkey:=fun (wx:World)=>qKeys_any (w:=wx) (a:=na) (m:=nd.val.length) (c:=nc) HND.out hlr
   rw [← HKKV.out.1] at hkey
   obtain ⟨KN,hKN⟩:∃ x,x=keysN nd:=⟨_,rfl⟩
   rw [← hKN] at hkey
   have hSv:SR=if 0≤stated∧KN≠stated then none else if nd.kind=1 then (if n≤commonK nd.key key then some nd else none) else if n < 256 then some nd else none:=by rw [HSR.out,hRs,hKN];rfl
   have HKEY:=Lib.hid hkey
   have HSV:=Lib.hid hSv
   have HCS:=Lib.hid hcs
   clear hRs hcs hlr hkey hKN hSv
   have hgo:∀ wx:World,Keeps [] wc wx→wx.heap[g14]?=some (.cells KK.toArray 90 (0,0))∧wx.heap[q12]?=some (.cells Z.toArray 90 (0,0))∧Blk wx q10 60 key∧wx.cell? ⟨g14,0,none⟩=some (.int .i64 nd.kind)∧wx.rangeAt g14 69 (nd.key.map B):=fun wx h=>by
    have b:=(h.block g14 (lt_of_heap HBK.out) (by simp)).trans HBK.out
    have b2:=b
    rw [HKKV.out.1] at b2
    have np:=node_parts HND.out b2
    exact ⟨b,(h.block q12 (lt_of_heap HB12c.out) (by simp)).trans HB12c.out,HB10c.out.keeps h (by simp),np.1.1,np.2.2.2.1⟩
   have HGO:=Lib.hid hgo
   have hend:∀ (wx:World) (b:Bool),Keeps [] wc wx→SR=(if b=true then some nd else none)→(StandsPost w (wx.setCells q12 0 KK) (.returned (.tuple #[.agg KK.toArray,.bool b])) SR∧Keeps [] w (wx.setCells q12 0 KK)):=fun wx b h e=>by
    have hk':=(HKW.out.trans (G:=[]) h (by simp)).setCells (b:=q12) (.inr HQ.out.1) 0 KK
    refine ⟨?_,hk'⟩
    rw [e]
    cases b with
    | false=>exact ⟨KK,rfl,HKKV.out.2.1,HKKV.out.2.2⟩
    | true =>
     refine ⟨na,nc,by rw [HKKV.out.1],?_,fun k hk=>Nat.le_trans HQ.out.2.2.1 (HOWN.out.2 k hk).1⟩
     exact ownsRow_keep HOWN.out.1 (fun k hk=>by
      have h1:=(World.ownsRow.lt HOWN.out.1 k hk).2
      have h2:=lt_of_heap HB12c.out
      have h3:=(HOWN.out.2 k hk).1
      rw [heap_setCells_other _ _ _ (by have:=HQ.out.2.2.2;omega)]
      exact h.block k h1 (by simp))
   have HEND:=Lib.hid hend
   have HRK:=Lib.hid (rangeAt_all HBK.out)
   clear hgo hend
   have hcase:True:=trivial
   clear hcase
   by_cases hst:0≤stated
   ·by_cases hke:KN=stated
    ·have hne:(KN != stated)=false:=by simpa using hke
     have HSTN:=Lib.hid (show ¬ (0≤stated∧KN≠stated) by omega)
     clear hke
     go_upto_region 8 with (first | (refine Go.BigFrame.wpList_want (by rfl) fun K hK=>wp_load_mid 90 (.tmp 14) rfl g14 0 (by rfl) KK _ HRK.out Tryz.underlying90 rfl HSKK.out (hK _ _ ?_);try simp only [zA,zB,zC,zD,zE,zF,zG,zH]) | (go_at_call 87;refine (HKEY.out _).mono ?_;rintro e w4 ⟨rfl,hk4⟩))
     have HKQ:=Lib.hid hk4
     clear hk4 hst hne
     have HGQ:=Lib.hid (HGO.out w4 HKQ.out)
     by_cases hk1:nd.kind=1
     ·have c0:w4.cell? ⟨g14,0,none⟩=some (.int .i64 1):=by rw [← hk1];exact HGQ.out.2.2.2.1
      have HK1:=Lib.hid hk1
      obtain ⟨CM,hCM⟩:∃ x,x=commonK nd.key key:=⟨_,rfl⟩
      have hcom:=fun (wx:World)=>r3Common_any (w:=wx) HND.out.2.2 HKL.out
      rw [← hCM] at hcom
      have HCOM:=Lib.hid hcom
      have HCM:=Lib.hid hCM
      have HSNK:=Lib.hid (size_key_of HND.out.2.2)
      clear hk1 hcom hCM
      go_upto_region 9 with fail
      refine wp_region_held_drew (S:=(fun w'=>w'.rangeAt g14 0 KK∧w'.rangeAt g14 69 (nd.key.map B)∧w'.rangeAt q10 0 (key.map B))) (by kernel_rfl) ?_ (fun hHeld=>?_)
      ·have hg:=HGO.out _ HKQ.out.drew
       exact ⟨rangeAt_all hg.1,hg.2.2.2.2,rangeAt_all hg.2.2.1⟩
      refine tkb 0 rfl (yieldsIf_load_mid (by rfl) 90 (.tmp 14) rfl g14 0 rfl KK _ (fun _ h=>h.1) Tryz.underlying90 rfl HSKK.out) ?_
      refine tk 1 ?_
      refine tkb 2 rfl (yieldsIf_load_mid (by rfl) 60 (.tmp 62) rfl g14 69 rfl (nd.key.map B) _ (fun _ h=>h.2.1) Tryz.underlying60 rfl HSNK.out) ?_
      refine tkb 3 rfl (yieldsIf_load_mid (by rfl) 60 (.tmp 10) rfl q10 0 rfl (key.map B) _ (fun _ h=>h.2.2) Tryz.underlying60 rfl HSK.out) ?_
      refine tk 5 ?_
      refine ac 4 fun K hK=>?_
      go_simp
      refine (HCOM.out _).mono ?_
      rintro e w5 ⟨rfl,hk5⟩
      have HK5:=Lib.hid (HKQ.out.drew.trans (G:=[]) hk5 (by simp))
      clear hk5
      refine hK.out _ _ ?_ (fun hHeld=>?_)
      ·have hg:=HGO.out _ HK5.out
       exact ⟨rangeAt_all hg.1,hg.2.2.2.2,rangeAt_all hg.2.2.1⟩
      clear hK K
      try simp only [zA,zB,zC,zD,zE,zF,zG,zH]
      by_cases hle:n≤CM
      ·have hcm:(n:Int)≤(CM:Int):=by omega
       have HX:=Lib.hid (show SR=(if true=true then some nd else none) by rw [HSV.out,if_neg HSTN.out,if_pos HK1.out,← HCM.out,if_pos hle];rfl)
       clear hle
       refine tk 6 ?_
       refine ac 7 fun K hK=>?_
       (refine st_store rfl 90 (.tmp 12) (.tmp 61) rfl ?_;refine ⟨_,run_store_node (HGO.out _ HK5.out).2.1 HZ.out.1 HKKV.out.2.1 HKKV.out.2.2,?_⟩;try simp only [zA,zB,zC,zD,zE,zF,zG,zH])
       refine hK.out _ _ ?_ (fun hHeld=>?_)
       ·have hk6:Keeps [q12] w5 (w5.setCells q12 0 KK):=(Keeps.refl _ _).setCells (.inl (by simp)) _ _
        have hg:=HGO.out _ HK5.out
        have e1:=(hk6.block g14 (lt_of_heap hg.1) (by have:=HQ.out.2.1;simp;omega))
        have e2:=(hk6.block q10 (lt_of_heap hg.2.2.1) (by have:=HE12.out;have:=HQ10.out;simp;omega))
        exact ⟨rangeAt_of_heap (rangeAt_all hg.1) e1,rangeAt_of_heap hg.2.2.2.2 e1,rangeAt_of_heap (rangeAt_all hg.2.2.1) e2⟩
       clear hK K
       try simp only [zA,zB,zC,zD,zE,zF,zG,zH]
       refine tk 8 ?_
       refine wpAnyH_done (by kernel_rfl) ?_ _
       clear hHeld
       go_wp2_with fail
       refine bodyPost_ret (results_row2 (cs:=KK) rfl rfl rfl (rangeAt_all (store_all (HGO.out _ HK5.out).2.1 (by rw [HZ.out.1,HKKV.out.2.1]))) Tryz.underlying90 rfl HSKK.out) rfl ?_
       exact HEND.out _ true HK5.out HX.out
      ·have hcm:¬ (n:Int)≤(CM:Int):=by omega
       have HX:=Lib.hid (show SR=(if false=true then some nd else none) by rw [HSV.out,if_neg HSTN.out,if_pos HK1.out,← HCM.out,if_neg hle];rfl)
       clear hle
       refine tk 6 ?_
       refine ac 7 fun K hK=>?_
       (refine st_store rfl 90 (.tmp 12) (.tmp 61) rfl ?_;refine ⟨_,run_store_node (HGO.out _ HK5.out).2.1 HZ.out.1 HKKV.out.2.1 HKKV.out.2.2,?_⟩;try simp only [zA,zB,zC,zD,zE,zF,zG,zH])
       refine hK.out _ _ ?_ (fun hHeld=>?_)
       ·have hk6:Keeps [q12] w5 (w5.setCells q12 0 KK):=(Keeps.refl _ _).setCells (.inl (by simp)) _ _
        have hg:=HGO.out _ HK5.out
        have e1:=(hk6.block g14 (lt_of_heap hg.1) (by have:=HQ.out.2.1;simp;omega))
        have e2:=(hk6.block q10 (lt_of_heap hg.2.2.1) (by have:=HE12.out;have:=HQ10.out;simp;omega))
        exact ⟨rangeAt_of_heap (rangeAt_all hg.1) e1,rangeAt_of_heap hg.2.2.2.2 e1,rangeAt_of_heap (rangeAt_all hg.2.2.1) e2⟩
       clear hK K
       try simp only [zA,zB,zC,zD,zE,zF,zG,zH]
       refine tk 8 ?_
       refine wpAnyH_done (by kernel_rfl) ?_ _
       clear hHeld
       go_wp2_with fail
       refine bodyPost_ret (results_row2 (cs:=KK) rfl rfl rfl (rangeAt_all (store_all (HGO.out _ HK5.out).2.1 (by rw [HZ.out.1,HKKV.out.2.1]))) Tryz.underlying90 rfl HSKK.out) rfl ?_
       exact HEND.out _ false HK5.out HX.out
     ·have hk2:nd.kind=2:=by rcases HCS.out with ⟨h,_⟩ | ⟨h,_⟩;exact absurd h hk1;exact h
      have c0:w4.cell? ⟨g14,0,none⟩=some (.int .i64 2):=by rw [← hk2];exact HGQ.out.2.2.2.1
      have HK1:=Lib.hid hk1
      have HRQ:=Lib.hid (rangeAt_all HGQ.out.1)
      clear hk1 hk2
      by_cases hlt:n < 256
      ·have i1:(n:Int) < 256:=by omega
       have HX:=Lib.hid (show SR=(if true=true then some nd else none) by rw [HSV.out,if_neg HSTN.out,if_neg HK1.out,if_pos hlt];rfl)
       clear hlt
       go_wp2_with (first | (refine wpList_load_mid rfl 90 (.tmp 14) rfl g14 0 (by rfl) KK _ HRQ.out Tryz.underlying90 rfl HSKK.out ?_;try simp only [zA,zB,zC,zD,zE,zF,zG,zH]) | (refine wl_store rfl 90 (.tmp 12) (.tmp 68) rfl ?_;refine ⟨_,run_store_node HGQ.out.2.1 HZ.out.1 HKKV.out.2.1 HKKV.out.2.2,?_⟩;try simp only [zA,zB,zC,zD,zE,zF,zG,zH]))
       refine bodyPost_ret (results_row2 (cs:=KK) rfl rfl rfl (rangeAt_all (store_all HGQ.out.2.1 (by rw [HZ.out.1,HKKV.out.2.1]))) Tryz.underlying90 rfl HSKK.out) rfl ?_
       exact HEND.out _ true HKQ.out HX.out
      ·have i1:¬ (n:Int) < 256:=by omega
       have HX:=Lib.hid (show SR=(if false=true then some nd else none) by rw [HSV.out,if_neg HSTN.out,if_neg HK1.out,if_neg hlt];rfl)
       clear hlt
       go_wp2_with (first | (refine wpList_load_mid rfl 90 (.tmp 14) rfl g14 0 (by rfl) KK _ HRQ.out Tryz.underlying90 rfl HSKK.out ?_;try simp only [zA,zB,zC,zD,zE,zF,zG,zH]) | (refine wl_store rfl 90 (.tmp 12) (.tmp 68) rfl ?_;refine ⟨_,run_store_node HGQ.out.2.1 HZ.out.1 HKKV.out.2.1 HKKV.out.2.2,?_⟩;try simp only [zA,zB,zC,zD,zE,zF,zG,zH]))
       refine bodyPost_ret (results_row2 (cs:=KK) rfl rfl rfl (rangeAt_all (store_all HGQ.out.2.1 (by rw [HZ.out.1,HKKV.out.2.1]))) Tryz.underlying90 rfl HSKK.out) rfl ?_
       exact HEND.out _ false HKQ.out HX.out
    ·have hne:(KN != stated)=true:=by simpa using hke
     have HX:=Lib.hid (show SR=none by rw [HSV.out,if_pos ⟨hst,hke⟩])
     clear hke
     go_upto_region 7 with (first | (refine Go.BigFrame.wpList_want (by rfl) fun K hK=>wp_load_mid 90 (.tmp 14) rfl g14 0 (by rfl) KK _ HRK.out Tryz.underlying90 rfl HSKK.out (hK _ _ ?_);try simp only [zA,zB,zC,zD,zE,zF,zG,zH]) | (go_at_call 87;refine (HKEY.out _).mono ?_;rintro e w4 ⟨rfl,hk4⟩))
     have HB4:=Lib.hid (HGO.out w4 hk4).2.1
     have HK4:=Lib.hid hk4
     clear hk4
     go_wp2_with (first | (refine wl_build rfl 90 #[] #[] rfl (by simp [Act.eval]) ?_;refine ⟨_,_,HBZ.out _,?_⟩;try simp only [zA,zB,zC,zD,zE,zF,zG,zH]) | (refine wl_store rfl 90 (.tmp 12) (.tmp 57) rfl ?_;refine ⟨_,run_store_node HB4.out HZ.out.1 HZ.out.1 HZ.out.2,?_⟩;try simp only [zA,zB,zC,zD,zE,zF,zG,zH]))
     refine bodyPost_ret (results_row2 (cs:=Z) rfl rfl rfl (rangeAt_all (store_all HB4.out rfl)) Tryz.underlying90 rfl HSZ.out) rfl ?_
     exact HE.out HX.out w4 HK4.out
   ·have HSTN:=Lib.hid (show ¬ (0≤stated∧KN≠stated) by omega)
    have HKQ:=Lib.hid (Keeps.refl [] wc)
    go_upto_region 8 with fail
    clear hst
    have HGQ:=Lib.hid (HGO.out wc HKQ.out)
    by_cases hk1:nd.kind=1
    ·have c0:wc.cell? ⟨g14,0,none⟩=some (.int .i64 1):=by rw [← hk1];exact HGQ.out.2.2.2.1
     have HK1:=Lib.hid hk1
     obtain ⟨CM,hCM⟩:∃ x,x=commonK nd.key key:=⟨_,rfl⟩
     have hcom:=fun (wx:World)=>r3Common_any (w:=wx) HND.out.2.2 HKL.out
     rw [← hCM] at hcom
     have HCOM:=Lib.hid hcom
     have HCM:=Lib.hid hCM
     have HSNK:=Lib.hid (size_key_of HND.out.2.2)
     clear hk1 hcom hCM
     go_upto_region 9 with fail
     refine wp_region_held_drew (S:=(fun w'=>w'.rangeAt g14 0 KK∧w'.rangeAt g14 69 (nd.key.map B)∧w'.rangeAt q10 0 (key.map B))) (by kernel_rfl) ?_ (fun hHeld=>?_)
     ·have hg:=HGO.out _ HKQ.out.drew
      exact ⟨rangeAt_all hg.1,hg.2.2.2.2,rangeAt_all hg.2.2.1⟩
     refine tkb 0 rfl (yieldsIf_load_mid (by rfl) 90 (.tmp 14) rfl g14 0 rfl KK _ (fun _ h=>h.1) Tryz.underlying90 rfl HSKK.out) ?_
     refine tk 1 ?_
     refine tkb 2 rfl (yieldsIf_load_mid (by rfl) 60 (.tmp 62) rfl g14 69 rfl (nd.key.map B) _ (fun _ h=>h.2.1) Tryz.underlying60 rfl HSNK.out) ?_
     refine tkb 3 rfl (yieldsIf_load_mid (by rfl) 60 (.tmp 10) rfl q10 0 rfl (key.map B) _ (fun _ h=>h.2.2) Tryz.underlying60 rfl HSK.out) ?_
     refine tk 5 ?_
     refine ac 4 fun K hK=>?_
     go_simp
     refine (HCOM.out _).mono ?_
     rintro e w5 ⟨rfl,hk5⟩
     have HK5:=Lib.hid (HKQ.out.drew.trans (G:=[]) hk5 (by simp))
     clear hk5
     refine hK.out _ _ ?_ (fun hHeld=>?_)
     ·have hg:=HGO.out _ HK5.out
      exact ⟨rangeAt_all hg.1,hg.2.2.2.2,rangeAt_all hg.2.2.1⟩
     clear hK K
     try simp only [zA,zB,zC,zD,zE,zF,zG,zH]
     by_cases hle:n≤CM
     ·have hcm:(n:Int)≤(CM:Int):=by omega
      have HX:=Lib.hid (show SR=(if true=true then some nd else none) by rw [HSV.out,if_neg HSTN.out,if_pos HK1.out,← HCM.out,if_pos hle];rfl)
      clear hle
      refine tk 6 ?_
      refine ac 7 fun K hK=>?_
      (refine st_store rfl 90 (.tmp 12) (.tmp 61) rfl ?_;refine ⟨_,run_store_node (HGO.out _ HK5.out).2.1 HZ.out.1 HKKV.out.2.1 HKKV.out.2.2,?_⟩;try simp only [zA,zB,zC,zD,zE,zF,zG,zH])
      refine hK.out _ _ ?_ (fun hHeld=>?_)
      ·have hk6:Keeps [q12] w5 (w5.setCells q12 0 KK):=(Keeps.refl _ _).setCells (.inl (by simp)) _ _
       have hg:=HGO.out _ HK5.out
       have e1:=(hk6.block g14 (lt_of_heap hg.1) (by have:=HQ.out.2.1;simp;omega))
       have e2:=(hk6.block q10 (lt_of_heap hg.2.2.1) (by have:=HE12.out;have:=HQ10.out;simp;omega))
       exact ⟨rangeAt_of_heap (rangeAt_all hg.1) e1,rangeAt_of_heap hg.2.2.2.2 e1,rangeAt_of_heap (rangeAt_all hg.2.2.1) e2⟩
      clear hK K
      try simp only [zA,zB,zC,zD,zE,zF,zG,zH]
      refine tk 8 ?_
      refine wpAnyH_done (by kernel_rfl) ?_ _
      clear hHeld
      go_wp2_with fail
      refine bodyPost_ret (results_row2 (cs:=KK) rfl rfl rfl (rangeAt_all (store_all (HGO.out _ HK5.out).2.1 (by rw [HZ.out.1,HKKV.out.2.1]))) Tryz.underlying90 rfl HSKK.out) rfl ?_
      exact HEND.out _ true HK5.out HX.out
     ·have hcm:¬ (n:Int)≤(CM:Int):=by omega
      have HX:=Lib.hid (show SR=(if false=true then some nd else none) by rw [HSV.out,if_neg HSTN.out,if_pos HK1.out,← HCM.out,if_neg hle];rfl)
      clear hle
      refine tk 6 ?_
      refine ac 7 fun K hK=>?_
      (refine st_store rfl 90 (.tmp 12) (.tmp 61) rfl ?_;refine ⟨_,run_store_node (HGO.out _ HK5.out).2.1 HZ.out.1 HKKV.out.2.1 HKKV.out.2.2,?_⟩;try simp only [zA,zB,zC,zD,zE,zF,zG,zH])
      refine hK.out _ _ ?_ (fun hHeld=>?_)
      ·have hk6:Keeps [q12] w5 (w5.setCells q12 0 KK):=(Keeps.refl _ _).setCells (.inl (by simp)) _ _
       have hg:=HGO.out _ HK5.out
       have e1:=(hk6.block g14 (lt_of_heap hg.1) (by have:=HQ.out.2.1;simp;omega))
       have e2:=(hk6.block q10 (lt_of_heap hg.2.2.1) (by have:=HE12.out;have:=HQ10.out;simp;omega))
       exact ⟨rangeAt_of_heap (rangeAt_all hg.1) e1,rangeAt_of_heap hg.2.2.2.2 e1,rangeAt_of_heap (rangeAt_all hg.2.2.1) e2⟩
      clear hK K
      try simp only [zA,zB,zC,zD,zE,zF,zG,zH]
      refine tk 8 ?_
      refine wpAnyH_done (by kernel_rfl) ?_ _
      clear hHeld
      go_wp2_with fail
      refine bodyPost_ret (results_row2 (cs:=KK) rfl rfl rfl (rangeAt_all (store_all (HGO.out _ HK5.out).2.1 (by rw [HZ.out.1,HKKV.out.2.1]))) Tryz.underlying90 rfl HSKK.out) rfl ?_
      exact HEND.out _ false HK5.out HX.out
    ·have hk2:nd.kind=2:=by rcases HCS.out with ⟨h,_⟩ | ⟨h,_⟩;exact absurd h hk1;exact h
     have c0:wc.cell? ⟨g14,0,none⟩=some (.int .i64 2):=by rw [← hk2];exact HGQ.out.2.2.2.1
     have HK1:=Lib.hid hk1
     have HRQ:=Lib.hid (rangeAt_all HGQ.out.1)
     clear hk1 hk2
     by_cases hlt:n < 256
     ·have i1:(n:Int) < 256:=by omega
      have HX:=Lib.hid (show SR=(if true=true then some nd else none) by rw [HSV.out,if_neg HSTN.out,if_neg HK1.out,if_pos hlt];rfl)
      clear hlt
      go_wp2_with (first | (refine wpList_load_mid rfl 90 (.tmp 14) rfl g14 0 (by rfl) KK _ HRQ.out Tryz.underlying90 rfl HSKK.out ?_;try simp only [zA,zB,zC,zD,zE,zF,zG,zH]) | (refine wl_store rfl 90 (.tmp 12) (.tmp 68) rfl ?_;refine ⟨_,run_store_node HGQ.out.2.1 HZ.out.1 HKKV.out.2.1 HKKV.out.2.2,?_⟩;try simp only [zA,zB,zC,zD,zE,zF,zG,zH]))
      refine bodyPost_ret (results_row2 (cs:=KK) rfl rfl rfl (rangeAt_all (store_all HGQ.out.2.1 (by rw [HZ.out.1,HKKV.out.2.1]))) Tryz.underlying90 rfl HSKK.out) rfl ?_
      exact HEND.out _ true HKQ.out HX.out
     ·have i1:¬ (n:Int) < 256:=by omega
      have HX:=Lib.hid (show SR=(if false=true then some nd else none) by rw [HSV.out,if_neg HSTN.out,if_neg HK1.out,if_neg hlt];rfl)
      clear hlt
      go_wp2_with (first | (refine wpList_load_mid rfl 90 (.tmp 14) rfl g14 0 (by rfl) KK _ HRQ.out Tryz.underlying90 rfl HSKK.out ?_;try simp only [zA,zB,zC,zD,zE,zF,zG,zH]) | (refine wl_store rfl 90 (.tmp 12) (.tmp 68) rfl ?_;refine ⟨_,run_store_node HGQ.out.2.1 HZ.out.1 HKKV.out.2.1 HKKV.out.2.2,?_⟩;try simp only [zA,zB,zC,zD,zE,zF,zG,zH]))
      refine bodyPost_ret (results_row2 (cs:=KK) rfl rfl rfl (rangeAt_all (store_all HGQ.out.2.1 (by rw [HZ.out.1,HKKV.out.2.1]))) Tryz.underlying90 rfl HSKK.out) rfl ?_
      exact HEND.out _ false HKQ.out HX.out
open Go.RowKit
set_option maxRecDepth 100000 in
set_option maxHeartbeats 3200000 in
theorem nodeAt_branch_deep {w:World} {s b bf c bm:Nat} {S:St} {sv:Value} {d:D} {F:List Nat} {e:Ent} {key:List UInt8} {lp lc rp rc:Nat} {ls rs:List UInt8} (h:StoreIn w s b S bf c bm sv) (hd:DiskAt w b d F) (hl:liveE d S.f=0) (he:e∈S.C.kept) (hll:e.load.length≤246) (hnd:decodeL e.kind e.load=some (branchN lp lc ls rp rc rs)) (hsum:lc+rc≤4096) (hkl:key.length=32) (depth:Nat) (stated:Int) (hc:depth=256) :
  Calls Tryz.prog 52 #[.pointer (some ⟨s,0,none⟩),.int .i64 e.key,.int .i64 depth,.int .i64 stated,.agg (key.map B).toArray] w fun r w'=>r=.returned (.tuple #[.agg (nodeC nd0 (.slice none 0 0)).toArray,.int .i64 4]) ∧
   StoreIn w' s b { S with C:={ S.C with hits:=wrap64 (S.C.hits+1) } } bf c bm sv∧Keeps [c] w w':=by
 obtain ⟨Z,hZ,hZi,hZ1,hZb⟩:∃ Z:List Value,Z.length=102∧(Tryz.prog.info? 90).map (fun i=>(i.zero,i.size,i.bytes))=some (some (.agg Z.toArray),102,160)∧(∀ v∈Z,v.oneCell'=true)∧Z=nodeC nd0 (.slice none 0 0):=⟨_,nodeC_length nd0_ok _,info_node,nodeC_ones,rfl⟩
 have hbld:∀ w,(Instr.build 90 #[]).run Tryz.prog w=.ok (.agg Z.toArray) w:=fun w=>by rw [hZb];exact run_build_node0 w
 rw [← hZb]
 obtain ⟨q9,hq9⟩:∃ q,q=w.heap.size:=⟨_,rfl⟩
 obtain ⟨q,hq0⟩:∃ q,q=(w.alloc (.cells (key.map B).toArray 60 (0,0))).heap.size:=⟨_,rfl⟩
 have hq:q=w.heap.size+1:=by rw [hq0];simp
 obtain ⟨w1,hw1⟩:∃ x,x=(w.alloc (.cells (key.map B).toArray 60 (0,0))).alloc (.cells Z.toArray 90 (0,0)):=⟨_,rfl⟩
 have k1:Keeps [] w w1:=by rw [hw1];exact ((Keeps.refl _ _).alloc _).alloc _
 have b1:w1.heap[q]?=some (.cells Z.toArray 90 (0,0)):=by rw [hw1];exact heap_new_at (by simp;omega)
 have b9:Blk w1 q9 60 key:=by rw [hw1];exact (heap_old_at (by simp;omega)).trans (heap_new_at hq9)
 have HLO:=Lib.hid (sLoad_staged (h.keeps k1 (by simp)) (hd.keeps k1 (by simp)) hl he hll)
 have HC:=Lib.hid h.c_mem
 have HSLT:=Lib.hid h.lt
 have HBL:=Lib.hid hbld
 have HZI:=Lib.hid hZi
 have HW1:=Lib.hid hw1
 have HQ:=Lib.hid hq
 have HQ0:=Lib.hid hq0
 have HQ9:=Lib.hid hq9
 have HK1:=Lib.hid k1
 have HB1:=Lib.hid b1
 have HB9:=Lib.hid b9
 have HZ:=Lib.hid (And.intro hZ hZ1)
 have HSZ:=Lib.hid (show (Tryz.prog.info? 90).map (·.size)=some Z.length by rw [hZ];exact size_node)
 have HND:=Lib.hid hnd
 have HOK:=Lib.hid (decodeL_ok hnd)
 obtain ⟨n,hn⟩:∃ n,n=lc+rc:=⟨_,rfl⟩
 have en:(lc:Int)+(rc:Int)=(n:Int):=by omega
 have wn:wrap64 (n:Int)=(n:Int):=by unfold wrap64;omega
 subst hc
 clear hbld hZi hw1 hq hq0 hq9 k1 b1 b9 hZ hZ1 hZb h hd hl he hll hnd hkl hn hsum
 go_enter Tryz.func52,Tryz.ntmps52
 go_upto_region 1 with (first | (refine wl_alloc rfl 90 rfl ?_;refine ⟨_,_,run_alloc _ HZI.out,?_⟩;try simp only [zA,zB,zC,zD,zE,zF,zG,zH]))
 try simp only [Value.cells]
 rw [← HW1.out,← HQ0.out,← HQ9.out]
 go_upto_region 4 with (first | (go_at_call 79;refine HLO.out.mono ?_;rintro r w2 ⟨a,cp,rfl,hown,hnew,hs2,hk2⟩))
 have hcq:c≠q∧c≠q9:=by have:=HC.out;have:=HQ.out;have:=HQ9.out;omega
 have HB2:=Lib.hid ((hk2.block q (lt_of_heap HB1.out) (by simp;omega)).trans HB1.out)
 have HB92:=Lib.hid (HB9.out.keeps hk2 (by simp;omega))
 have HS2:=Lib.hid hs2
 have HK2:=Lib.hid ((HK1.out.mono (G:=[c]) (by simp)).trans (G:=[c]) hk2 (fun j hj=>.inl hj))
 have HD2:=Lib.hid (decode_some (ownB_bytes hown) HND.out)
 clear hown hnew hs2 hk2 hcq
 go_upto_region 7 with (first | (go_at_call 80;refine HD2.out.mono ?_;rintro r w3 ⟨a3,c3,rfl,hO3,hn3,hk3⟩;obtain ⟨N,hN⟩:∃ N,N=nodeC (branchN lp lc ls rp rc rs) (.slice a3 (branchN lp lc ls rp rc rs).val.length c3):=⟨_,rfl⟩;rw [← hN];have HN:=Lib.hid (And.intro hN (And.intro (show N.length=102 by rw [hN];exact nodeC_length HOK.out _) (show ∀ v∈N,v.oneCell'=true by rw [hN];exact nodeC_ones)));have HO3:=Lib.hid (And.intro hO3 (And.intro hn3 hk3));clear hN hO3 hn3 hk3) | (refine wl_alloc rfl 90 rfl ?_;refine ⟨_,_,run_alloc _ HZI.out,?_⟩;(try simp only [Value.cells]);try simp only [zA,zB,zC,zD,zE,zF,zG,zH]) | (refine wl_store rfl 90 (.tmp 15) (.tmp 31) rfl ?_;refine ⟨_,run_store_node (heap_new_at rfl) HZ.out.1 HN.out.2.1 HN.out.2.2,?_⟩;try simp only [zA,zB,zC,zD,zE,zF,zG,zH]))
 obtain ⟨q15,hq15⟩:∃ q,q=w3.heap.size:=⟨_,rfl⟩
 obtain ⟨w5,hw5⟩:∃ x,x=(w3.alloc (.cells Z.toArray 90 (0,0))).setCells q15 0 N:=⟨_,rfl⟩
 have b15:w5.heap[q15]?=some (.cells N.toArray 90 (0,0)):=by rw [hw5];exact store_all (heap_new_at hq15) (by rw [HZ.out.1,HN.out.2.1])
 have k35:Keeps [] w3 w5:=by rw [hw5];exact ((Keeps.refl _ _).alloc _).setCells (.inr (by omega)) _ _
 have k25:Keeps [] w2 w5:=HO3.out.2.2.trans (G:=[]) k35 (by simp)
 have HB5:=Lib.hid ((k25.block q (lt_of_heap HB2.out) (by simp)).trans HB2.out)
 have HB95:=Lib.hid (HB92.out.keeps k25 (by simp))
 have HB15:=Lib.hid b15
 have HS5:=Lib.hid (HS2.out.keeps k25 (by simp))
 have HK5:=Lib.hid (HK2.out.trans (G:=[]) k25 (by simp))
 have HO5:=Lib.hid (show OwnB w5 (.slice a3 (branchN lp lc ls rp rc rs).val.length c3) (branchN lp lc ls rp rc rs).val from ownsRow_keep HO3.out.1 (fun k hk=>k35.block k (World.ownsRow.lt HO3.out.1 k hk).2 (by simp)))
 have HNB:=Lib.hid (show ∀ k,(Value.slice a3 (branchN lp lc ls rp rc rs).val.length c3).ownBlock=some k→w.heap.size≤k∧k≠q from fun k hk=>⟨Nat.le_trans HK2.out.size (HO3.out.2.1 k hk),fun e=>by have:=HO3.out.2.1 k hk;have:=lt_of_heap HB2.out;omega⟩)
 have HNQ:=Lib.hid (show q < q15 by rw [hq15];exact Nat.lt_of_lt_of_le (lt_of_heap HB2.out) HO3.out.2.2.size)
 rw [← hq15]
 rw [← hw5]
 obtain ⟨⟨n0,n1,n2,n3,n4,n5⟩,_,_,hkey,_⟩:=node_parts HOK.out (show w5.heap[q15]?=some (.cells (nodeC (branchN lp lc ls rp rc rs) (.slice a3 (branchN lp lc ls rp rc rs).val.length c3)).toArray 90 (0,0)) by rw [b15,HN.out.1])
 have HKEY:=Lib.hid hkey
 clear hq15 hw5 b15 k35 k25 hkey HO3 HS2 HK2 HB2 HB92 HD2 n1 n2 n5
 have hk0:(branchN lp lc ls rp rc rs).kind=2:=rfl
 rw [hk0] at n0
 have hl0:(branchN lp lc ls rp rc rs).lc=(lc:Int):=rfl
 have hr0:(branchN lp lc ls rp rc rs).rc=(rc:Int):=rfl
 rw [hl0] at n3
 rw [hr0] at n4
 clear hk0 hl0 hr0
 go_upto_region 13 with fail
 clear n0 n3 n4
 go_wp2_with (first | (refine wl_build rfl 90 #[] #[] rfl (by simp [Act.eval]) ?_;refine ⟨_,_,HBL.out _,?_⟩;try simp only [zA,zB,zC,zD,zE,zF,zG,zH]) | (refine wl_store rfl 90 (.tmp 10) (.tmp 53) rfl ?_;refine ⟨_,run_store_node HB5.out HZ.out.1 HZ.out.1 HZ.out.2,?_⟩;try simp only [zA,zB,zC,zD,zE,zF,zG,zH]))
 have k6:Keeps [q] w5 (w5.setCells q 0 Z):=(Keeps.refl _ _).setCells (.inl (by simp)) _ _
 refine bodyPost_ret (results_row2 (cs:=Z) rfl rfl rfl (rangeAt_all (store_all HB5.out rfl)) Tryz.underlying90 rfl HSZ.out) rfl ⟨rfl,?_,?_⟩
 ·refine HS5.out.keeps k6 (fun k hk e=>?_)
  simp at e
  subst e
  have:=HSLT.out k hk
  have:=HQ.out
  omega
 ·exact HK5.out.setCells (.inr (by rw [HQ.out];omega)) _ _
set_option maxRecDepth 100000 in
set_option maxHeartbeats 3200000 in
theorem nodeAt_branch_stated {w:World} {s b bf c bm:Nat} {S:St} {sv:Value} {d:D} {F:List Nat} {e:Ent} {key:List UInt8} {lp lc rp rc:Nat} {ls rs:List UInt8} (h:StoreIn w s b S bf c bm sv) (hd:DiskAt w b d F) (hl:liveE d S.f=0) (he:e∈S.C.kept) (hll:e.load.length≤246) (hnd:decodeL e.kind e.load=some (branchN lp lc ls rp rc rs)) (hsum:lc+rc≤4096) (hkl:key.length=32) (depth:Nat) (stated:Int) (hc:¬ depth=256) (hst:0≤stated∧stated≠((lc+rc:Nat):Int)) :
  Calls Tryz.prog 52 #[.pointer (some ⟨s,0,none⟩),.int .i64 e.key,.int .i64 depth,.int .i64 stated,.agg (key.map B).toArray] w fun r w'=>r=.returned (.tuple #[.agg (nodeC nd0 (.slice none 0 0)).toArray,.int .i64 4]) ∧
   StoreIn w' s b { S with C:={ S.C with hits:=wrap64 (S.C.hits+1) } } bf c bm sv∧Keeps [c] w w':=by
 obtain ⟨Z,hZ,hZi,hZ1,hZb⟩:∃ Z:List Value,Z.length=102∧(Tryz.prog.info? 90).map (fun i=>(i.zero,i.size,i.bytes))=some (some (.agg Z.toArray),102,160)∧(∀ v∈Z,v.oneCell'=true)∧Z=nodeC nd0 (.slice none 0 0):=⟨_,nodeC_length nd0_ok _,info_node,nodeC_ones,rfl⟩
 have hbld:∀ w,(Instr.build 90 #[]).run Tryz.prog w=.ok (.agg Z.toArray) w:=fun w=>by rw [hZb];exact run_build_node0 w
 rw [← hZb]
 obtain ⟨q9,hq9⟩:∃ q,q=w.heap.size:=⟨_,rfl⟩
 obtain ⟨q,hq0⟩:∃ q,q=(w.alloc (.cells (key.map B).toArray 60 (0,0))).heap.size:=⟨_,rfl⟩
 have hq:q=w.heap.size+1:=by rw [hq0];simp
 obtain ⟨w1,hw1⟩:∃ x,x=(w.alloc (.cells (key.map B).toArray 60 (0,0))).alloc (.cells Z.toArray 90 (0,0)):=⟨_,rfl⟩
 have k1:Keeps [] w w1:=by rw [hw1];exact ((Keeps.refl _ _).alloc _).alloc _
 have b1:w1.heap[q]?=some (.cells Z.toArray 90 (0,0)):=by rw [hw1];exact heap_new_at (by simp;omega)
 have b9:Blk w1 q9 60 key:=by rw [hw1];exact (heap_old_at (by simp;omega)).trans (heap_new_at hq9)
 have HLO:=Lib.hid (sLoad_staged (h.keeps k1 (by simp)) (hd.keeps k1 (by simp)) hl he hll)
 have HC:=Lib.hid h.c_mem
 have HSLT:=Lib.hid h.lt
 have HBL:=Lib.hid hbld
 have HZI:=Lib.hid hZi
 have HW1:=Lib.hid hw1
 have HQ:=Lib.hid hq
 have HQ0:=Lib.hid hq0
 have HQ9:=Lib.hid hq9
 have HK1:=Lib.hid k1
 have HB1:=Lib.hid b1
 have HB9:=Lib.hid b9
 have HZ:=Lib.hid (And.intro hZ hZ1)
 have HSZ:=Lib.hid (show (Tryz.prog.info? 90).map (·.size)=some Z.length by rw [hZ];exact size_node)
 have HND:=Lib.hid hnd
 have HOK:=Lib.hid (decodeL_ok hnd)
 obtain ⟨n,hn⟩:∃ n,n=lc+rc:=⟨_,rfl⟩
 have en:(lc:Int)+(rc:Int)=(n:Int):=by omega
 have wn:wrap64 (n:Int)=(n:Int):=by unfold wrap64;omega
 rw [← hn] at hst
 have hci:¬ (depth:Int)=256:=by omega
 obtain ⟨st0,hst1⟩:=hst
 have hst2:(stated != (n:Int))=true:=by rw [bne_iff_ne];exact hst1
 clear hst1
 clear hbld hZi hw1 hq hq0 hq9 k1 b1 b9 hZ hZ1 hZb h hd hl he hll hnd hkl hn hsum hc
 go_enter Tryz.func52,Tryz.ntmps52
 go_upto_region 1 with (first | (refine wl_alloc rfl 90 rfl ?_;refine ⟨_,_,run_alloc _ HZI.out,?_⟩;try simp only [zA,zB,zC,zD,zE,zF,zG,zH]))
 try simp only [Value.cells]
 rw [← HW1.out,← HQ0.out,← HQ9.out]
 go_upto_region 4 with (first | (go_at_call 79;refine HLO.out.mono ?_;rintro r w2 ⟨a,cp,rfl,hown,hnew,hs2,hk2⟩))
 have hcq:c≠q∧c≠q9:=by have:=HC.out;have:=HQ.out;have:=HQ9.out;omega
 have HB2:=Lib.hid ((hk2.block q (lt_of_heap HB1.out) (by simp;omega)).trans HB1.out)
 have HB92:=Lib.hid (HB9.out.keeps hk2 (by simp;omega))
 have HS2:=Lib.hid hs2
 have HK2:=Lib.hid ((HK1.out.mono (G:=[c]) (by simp)).trans (G:=[c]) hk2 (fun j hj=>.inl hj))
 have HD2:=Lib.hid (decode_some (ownB_bytes hown) HND.out)
 clear hown hnew hs2 hk2 hcq
 go_upto_region 7 with (first | (go_at_call 80;refine HD2.out.mono ?_;rintro r w3 ⟨a3,c3,rfl,hO3,hn3,hk3⟩;obtain ⟨N,hN⟩:∃ N,N=nodeC (branchN lp lc ls rp rc rs) (.slice a3 (branchN lp lc ls rp rc rs).val.length c3):=⟨_,rfl⟩;rw [← hN];have HN:=Lib.hid (And.intro hN (And.intro (show N.length=102 by rw [hN];exact nodeC_length HOK.out _) (show ∀ v∈N,v.oneCell'=true by rw [hN];exact nodeC_ones)));have HO3:=Lib.hid (And.intro hO3 (And.intro hn3 hk3));clear hN hO3 hn3 hk3) | (refine wl_alloc rfl 90 rfl ?_;refine ⟨_,_,run_alloc _ HZI.out,?_⟩;(try simp only [Value.cells]);try simp only [zA,zB,zC,zD,zE,zF,zG,zH]) | (refine wl_store rfl 90 (.tmp 15) (.tmp 31) rfl ?_;refine ⟨_,run_store_node (heap_new_at rfl) HZ.out.1 HN.out.2.1 HN.out.2.2,?_⟩;try simp only [zA,zB,zC,zD,zE,zF,zG,zH]))
 obtain ⟨q15,hq15⟩:∃ q,q=w3.heap.size:=⟨_,rfl⟩
 obtain ⟨w5,hw5⟩:∃ x,x=(w3.alloc (.cells Z.toArray 90 (0,0))).setCells q15 0 N:=⟨_,rfl⟩
 have b15:w5.heap[q15]?=some (.cells N.toArray 90 (0,0)):=by rw [hw5];exact store_all (heap_new_at hq15) (by rw [HZ.out.1,HN.out.2.1])
 have k35:Keeps [] w3 w5:=by rw [hw5];exact ((Keeps.refl _ _).alloc _).setCells (.inr (by omega)) _ _
 have k25:Keeps [] w2 w5:=HO3.out.2.2.trans (G:=[]) k35 (by simp)
 have HB5:=Lib.hid ((k25.block q (lt_of_heap HB2.out) (by simp)).trans HB2.out)
 have HB95:=Lib.hid (HB92.out.keeps k25 (by simp))
 have HB15:=Lib.hid b15
 have HS5:=Lib.hid (HS2.out.keeps k25 (by simp))
 have HK5:=Lib.hid (HK2.out.trans (G:=[]) k25 (by simp))
 have HO5:=Lib.hid (show OwnB w5 (.slice a3 (branchN lp lc ls rp rc rs).val.length c3) (branchN lp lc ls rp rc rs).val from ownsRow_keep HO3.out.1 (fun k hk=>k35.block k (World.ownsRow.lt HO3.out.1 k hk).2 (by simp)))
 have HNB:=Lib.hid (show ∀ k,(Value.slice a3 (branchN lp lc ls rp rc rs).val.length c3).ownBlock=some k→w.heap.size≤k∧k≠q from fun k hk=>⟨Nat.le_trans HK2.out.size (HO3.out.2.1 k hk),fun e=>by have:=HO3.out.2.1 k hk;have:=lt_of_heap HB2.out;omega⟩)
 have HNQ:=Lib.hid (show q < q15 by rw [hq15];exact Nat.lt_of_lt_of_le (lt_of_heap HB2.out) HO3.out.2.2.size)
 rw [← hq15]
 rw [← hw5]
 obtain ⟨⟨n0,n1,n2,n3,n4,n5⟩,_,_,hkey,_⟩:=node_parts HOK.out (show w5.heap[q15]?=some (.cells (nodeC (branchN lp lc ls rp rc rs) (.slice a3 (branchN lp lc ls rp rc rs).val.length c3)).toArray 90 (0,0)) by rw [b15,HN.out.1])
 have HKEY:=Lib.hid hkey
 clear hq15 hw5 b15 k35 k25 hkey HO3 HS2 HK2 HB2 HB92 HD2 n1 n2 n5
 have hk0:(branchN lp lc ls rp rc rs).kind=2:=rfl
 rw [hk0] at n0
 have hl0:(branchN lp lc ls rp rc rs).lc=(lc:Int):=rfl
 have hr0:(branchN lp lc ls rp rc rs).rc=(rc:Int):=rfl
 rw [hl0] at n3
 rw [hr0] at n4
 clear hk0 hl0 hr0
 go_upto_region 15 with fail
 clear n0 n3 n4
 go_wp2_with (first | (refine wl_build rfl 90 #[] #[] rfl (by simp [Act.eval]) ?_;refine ⟨_,_,HBL.out _,?_⟩;try simp only [zA,zB,zC,zD,zE,zF,zG,zH]) | (refine wl_store rfl 90 (.tmp 10) (.tmp 61) rfl ?_;refine ⟨_,run_store_node HB5.out HZ.out.1 HZ.out.1 HZ.out.2,?_⟩;try simp only [zA,zB,zC,zD,zE,zF,zG,zH]))
 have k6:Keeps [q] w5 (w5.setCells q 0 Z):=(Keeps.refl _ _).setCells (.inl (by simp)) _ _
 refine bodyPost_ret (results_row2 (cs:=Z) rfl rfl rfl (rangeAt_all (store_all HB5.out rfl)) Tryz.underlying90 rfl HSZ.out) rfl ⟨rfl,?_,?_⟩
 ·refine HS5.out.keeps k6 (fun k hk e=>?_)
  simp at e
  subst e
  have:=HSLT.out k hk
  have:=HQ.out
  omega
 ·exact HK5.out.setCells (.inr (by rw [HQ.out];omega)) _ _
set_option maxRecDepth 100000 in
set_option maxHeartbeats 3200000 in
theorem nodeAt_branch_okn {w:World} {s b bf c bm:Nat} {S:St} {sv:Value} {d:D} {F:List Nat} {e:Ent} {key:List UInt8} {lp lc rp rc:Nat} {ls rs:List UInt8} (h:StoreIn w s b S bf c bm sv) (hd:DiskAt w b d F) (hl:liveE d S.f=0) (he:e∈S.C.kept) (hll:e.load.length≤246) (hnd:decodeL e.kind e.load=some (branchN lp lc ls rp rc rs)) (hsum:lc+rc≤4096) (hkl:key.length=32) (depth:Nat) (stated:Int) (hc:¬ depth=256) (hsn:stated < 0) :
  Calls Tryz.prog 52 #[.pointer (some ⟨s,0,none⟩),.int .i64 e.key,.int .i64 depth,.int .i64 stated,.agg (key.map B).toArray] w fun r w'=>∃ a' c',r=.returned (.tuple #[.agg (nodeC (branchN lp lc ls rp rc rs) (.slice a' (branchN lp lc ls rp rc rs).val.length c')).toArray,.int .i64 0])∧OwnB w' (.slice a' (branchN lp lc ls rp rc rs).val.length c') (branchN lp lc ls rp rc rs).val∧(∀ k,(Value.slice a' (branchN lp lc ls rp rc rs).val.length c').ownBlock=some k→w.heap.size≤k) ∧
   StoreIn w' s b { S with C:={ S.C with hits:=wrap64 (S.C.hits+1) } } bf c bm sv∧Keeps [c] w w':=by
 obtain ⟨Z,hZ,hZi,hZ1,hZb⟩:∃ Z:List Value,Z.length=102∧(Tryz.prog.info? 90).map (fun i=>(i.zero,i.size,i.bytes))=some (some (.agg Z.toArray),102,160)∧(∀ v∈Z,v.oneCell'=true)∧Z=nodeC nd0 (.slice none 0 0):=⟨_,nodeC_length nd0_ok _,info_node,nodeC_ones,rfl⟩
 have hbld:∀ w,(Instr.build 90 #[]).run Tryz.prog w=.ok (.agg Z.toArray) w:=fun w=>by rw [hZb];exact run_build_node0 w
 obtain ⟨q9,hq9⟩:∃ q,q=w.heap.size:=⟨_,rfl⟩
 obtain ⟨q,hq0⟩:∃ q,q=(w.alloc (.cells (key.map B).toArray 60 (0,0))).heap.size:=⟨_,rfl⟩
 have hq:q=w.heap.size+1:=by rw [hq0];simp
 obtain ⟨w1,hw1⟩:∃ x,x=(w.alloc (.cells (key.map B).toArray 60 (0,0))).alloc (.cells Z.toArray 90 (0,0)):=⟨_,rfl⟩
 have k1:Keeps [] w w1:=by rw [hw1];exact ((Keeps.refl _ _).alloc _).alloc _
 have b1:w1.heap[q]?=some (.cells Z.toArray 90 (0,0)):=by rw [hw1];exact heap_new_at (by simp;omega)
 have b9:Blk w1 q9 60 key:=by rw [hw1];exact (heap_old_at (by simp;omega)).trans (heap_new_at hq9)
 have HLO:=Lib.hid (sLoad_staged (h.keeps k1 (by simp)) (hd.keeps k1 (by simp)) hl he hll)
 have HC:=Lib.hid h.c_mem
 have HSLT:=Lib.hid h.lt
 have HBL:=Lib.hid hbld
 have HZI:=Lib.hid hZi
 have HW1:=Lib.hid hw1
 have HQ:=Lib.hid hq
 have HQ0:=Lib.hid hq0
 have HQ9:=Lib.hid hq9
 have HK1:=Lib.hid k1
 have HB1:=Lib.hid b1
 have HB9:=Lib.hid b9
 have HZ:=Lib.hid (And.intro hZ hZ1)
 have HSZ:=Lib.hid (show (Tryz.prog.info? 90).map (·.size)=some Z.length by rw [hZ];exact size_node)
 have HND:=Lib.hid hnd
 have HOK:=Lib.hid (decodeL_ok hnd)
 obtain ⟨n,hn⟩:∃ n,n=lc+rc:=⟨_,rfl⟩
 have en:(lc:Int)+(rc:Int)=(n:Int):=by omega
 have wn:wrap64 (n:Int)=(n:Int):=by unfold wrap64;omega
 have hci:¬ (depth:Int)=256:=by omega
 have hs1:¬ (0:Int)≤stated:=by omega
 clear hbld hZi hw1 hq hq0 hq9 k1 b1 b9 hZ hZ1 hZb h hd hl he hll hnd hkl hn hsum hc
 go_enter Tryz.func52,Tryz.ntmps52
 go_upto_region 1 with (first | (refine wl_alloc rfl 90 rfl ?_;refine ⟨_,_,run_alloc _ HZI.out,?_⟩;try simp only [zA,zB,zC,zD,zE,zF,zG,zH]))
 try simp only [Value.cells]
 rw [← HW1.out,← HQ0.out,← HQ9.out]
 go_upto_region 4 with (first | (go_at_call 79;refine HLO.out.mono ?_;rintro r w2 ⟨a,cp,rfl,hown,hnew,hs2,hk2⟩))
 have hcq:c≠q∧c≠q9:=by have:=HC.out;have:=HQ.out;have:=HQ9.out;omega
 have HB2:=Lib.hid ((hk2.block q (lt_of_heap HB1.out) (by simp;omega)).trans HB1.out)
 have HB92:=Lib.hid (HB9.out.keeps hk2 (by simp;omega))
 have HS2:=Lib.hid hs2
 have HK2:=Lib.hid ((HK1.out.mono (G:=[c]) (by simp)).trans (G:=[c]) hk2 (fun j hj=>.inl hj))
 have HD2:=Lib.hid (decode_some (ownB_bytes hown) HND.out)
 clear hown hnew hs2 hk2 hcq
 go_upto_region 7 with (first | (go_at_call 80;refine HD2.out.mono ?_;rintro r w3 ⟨a3,c3,rfl,hO3,hn3,hk3⟩;obtain ⟨N,hN⟩:∃ N,N=nodeC (branchN lp lc ls rp rc rs) (.slice a3 (branchN lp lc ls rp rc rs).val.length c3):=⟨_,rfl⟩;rw [← hN];have HN:=Lib.hid (And.intro hN (And.intro (show N.length=102 by rw [hN];exact nodeC_length HOK.out _) (show ∀ v∈N,v.oneCell'=true by rw [hN];exact nodeC_ones)));have HO3:=Lib.hid (And.intro hO3 (And.intro hn3 hk3));clear hN hO3 hn3 hk3) | (refine wl_alloc rfl 90 rfl ?_;refine ⟨_,_,run_alloc _ HZI.out,?_⟩;(try simp only [Value.cells]);try simp only [zA,zB,zC,zD,zE,zF,zG,zH]) | (refine wl_store rfl 90 (.tmp 15) (.tmp 31) rfl ?_;refine ⟨_,run_store_node (heap_new_at rfl) HZ.out.1 HN.out.2.1 HN.out.2.2,?_⟩;try simp only [zA,zB,zC,zD,zE,zF,zG,zH]))
 obtain ⟨q15,hq15⟩:∃ q,q=w3.heap.size:=⟨_,rfl⟩
 obtain ⟨w5,hw5⟩:∃ x,x=(w3.alloc (.cells Z.toArray 90 (0,0))).setCells q15 0 N:=⟨_,rfl⟩
 have b15:w5.heap[q15]?=some (.cells N.toArray 90 (0,0)):=by rw [hw5];exact store_all (heap_new_at hq15) (by rw [HZ.out.1,HN.out.2.1])
 have k35:Keeps [] w3 w5:=by rw [hw5];exact ((Keeps.refl _ _).alloc _).setCells (.inr (by omega)) _ _
 have k25:Keeps [] w2 w5:=HO3.out.2.2.trans (G:=[]) k35 (by simp)
 have HB5:=Lib.hid ((k25.block q (lt_of_heap HB2.out) (by simp)).trans HB2.out)
 have HB95:=Lib.hid (HB92.out.keeps k25 (by simp))
 have HB15:=Lib.hid b15
 have HS5:=Lib.hid (HS2.out.keeps k25 (by simp))
 have HK5:=Lib.hid (HK2.out.trans (G:=[]) k25 (by simp))
 have HO5:=Lib.hid (show OwnB w5 (.slice a3 (branchN lp lc ls rp rc rs).val.length c3) (branchN lp lc ls rp rc rs).val from ownsRow_keep HO3.out.1 (fun k hk=>k35.block k (World.ownsRow.lt HO3.out.1 k hk).2 (by simp)))
 have HNB:=Lib.hid (show ∀ k,(Value.slice a3 (branchN lp lc ls rp rc rs).val.length c3).ownBlock=some k→w.heap.size≤k∧k≠q from fun k hk=>⟨Nat.le_trans HK2.out.size (HO3.out.2.1 k hk),fun e=>by have:=HO3.out.2.1 k hk;have:=lt_of_heap HB2.out;omega⟩)
 have HNQ:=Lib.hid (show q < q15 by rw [hq15];exact Nat.lt_of_lt_of_le (lt_of_heap HB2.out) HO3.out.2.2.size)
 rw [← hq15]
 rw [← hw5]
 obtain ⟨⟨n0,n1,n2,n3,n4,n5⟩,_,_,hkey,_⟩:=node_parts HOK.out (show w5.heap[q15]?=some (.cells (nodeC (branchN lp lc ls rp rc rs) (.slice a3 (branchN lp lc ls rp rc rs).val.length c3)).toArray 90 (0,0)) by rw [b15,HN.out.1])
 have HKEY:=Lib.hid hkey
 clear hq15 hw5 b15 k35 k25 hkey HO3 HS2 HK2 HB2 HB92 HD2 n1 n2 n5
 have hk0:(branchN lp lc ls rp rc rs).kind=2:=rfl
 rw [hk0] at n0
 have hl0:(branchN lp lc ls rp rc rs).lc=(lc:Int):=rfl
 have hr0:(branchN lp lc ls rp rc rs).rc=(rc:Int):=rfl
 rw [hl0] at n3
 rw [hr0] at n4
 clear hk0 hl0 hr0
 go_upto_region 16 with fail
 clear n0 n3 n4
 go_wp2_with (first | (refine wpList_load_mid rfl 90 (.tmp 15) rfl q15 0 (by rfl) N _ (rangeAt_all HB15.out) Tryz.underlying90 rfl (by rw [HN.out.2.1];exact size_node) ?_;try simp only [zA,zB,zC,zD,zE,zF,zG,zH]) | (refine wl_store rfl 90 (.tmp 10) (.tmp 62) rfl ?_;refine ⟨_,run_store_node HB5.out HZ.out.1 HN.out.2.1 HN.out.2.2,?_⟩;try simp only [zA,zB,zC,zD,zE,zF,zG,zH]))
 have k6:Keeps [q] w5 (w5.setCells q 0 N):=(Keeps.refl _ _).setCells (.inl (by simp)) _ _
 refine bodyPost_ret (results_row2 (cs:=N) rfl rfl rfl (rangeAt_all (store_all HB5.out (by rw [HZ.out.1,HN.out.2.1]))) Tryz.underlying90 rfl (by rw [HN.out.2.1];exact size_node)) rfl ⟨a3,c3,by rw [← HN.out.1];rfl,?_,?_,?_,?_⟩
 ·exact ownsRow_keep HO5.out (fun k hk=>k6.block k (World.ownsRow.lt HO5.out k hk).2 (by simp;exact (HNB.out k hk).2))
 ·exact fun k hk=>(HNB.out k hk).1
 ·refine HS5.out.keeps k6 (fun k hk e=>?_)
  simp at e
  subst e
  have:=HSLT.out k hk
  have:=HQ.out
  omega
 ·exact HK5.out.setCells (.inr (by rw [HQ.out];omega)) _ _
set_option maxRecDepth 100000 in
set_option maxHeartbeats 3200000 in
theorem nodeAt_branch_oke {w:World} {s b bf c bm:Nat} {S:St} {sv:Value} {d:D} {F:List Nat} {e:Ent} {key:List UInt8} {lp lc rp rc:Nat} {ls rs:List UInt8} (h:StoreIn w s b S bf c bm sv) (hd:DiskAt w b d F) (hl:liveE d S.f=0) (he:e∈S.C.kept) (hll:e.load.length≤246) (hnd:decodeL e.kind e.load=some (branchN lp lc ls rp rc rs)) (hsum:lc+rc≤4096) (hkl:key.length=32) (depth:Nat) (stated:Int) (hc:¬ depth=256) (hsn:stated=((lc+rc:Nat):Int)) :
  Calls Tryz.prog 52 #[.pointer (some ⟨s,0,none⟩),.int .i64 e.key,.int .i64 depth,.int .i64 stated,.agg (key.map B).toArray] w fun r w'=>∃ a' c',r=.returned (.tuple #[.agg (nodeC (branchN lp lc ls rp rc rs) (.slice a' (branchN lp lc ls rp rc rs).val.length c')).toArray,.int .i64 0])∧OwnB w' (.slice a' (branchN lp lc ls rp rc rs).val.length c') (branchN lp lc ls rp rc rs).val∧(∀ k,(Value.slice a' (branchN lp lc ls rp rc rs).val.length c').ownBlock=some k→w.heap.size≤k) ∧
   StoreIn w' s b { S with C:={ S.C with hits:=wrap64 (S.C.hits+1) } } bf c bm sv∧Keeps [c] w w':=by
 obtain ⟨Z,hZ,hZi,hZ1,hZb⟩:∃ Z:List Value,Z.length=102∧(Tryz.prog.info? 90).map (fun i=>(i.zero,i.size,i.bytes))=some (some (.agg Z.toArray),102,160)∧(∀ v∈Z,v.oneCell'=true)∧Z=nodeC nd0 (.slice none 0 0):=⟨_,nodeC_length nd0_ok _,info_node,nodeC_ones,rfl⟩
 have hbld:∀ w,(Instr.build 90 #[]).run Tryz.prog w=.ok (.agg Z.toArray) w:=fun w=>by rw [hZb];exact run_build_node0 w
 obtain ⟨q9,hq9⟩:∃ q,q=w.heap.size:=⟨_,rfl⟩
 obtain ⟨q,hq0⟩:∃ q,q=(w.alloc (.cells (key.map B).toArray 60 (0,0))).heap.size:=⟨_,rfl⟩
 have hq:q=w.heap.size+1:=by rw [hq0];simp
 obtain ⟨w1,hw1⟩:∃ x,x=(w.alloc (.cells (key.map B).toArray 60 (0,0))).alloc (.cells Z.toArray 90 (0,0)):=⟨_,rfl⟩
 have k1:Keeps [] w w1:=by rw [hw1];exact ((Keeps.refl _ _).alloc _).alloc _
 have b1:w1.heap[q]?=some (.cells Z.toArray 90 (0,0)):=by rw [hw1];exact heap_new_at (by simp;omega)
 have b9:Blk w1 q9 60 key:=by rw [hw1];exact (heap_old_at (by simp;omega)).trans (heap_new_at hq9)
 have HLO:=Lib.hid (sLoad_staged (h.keeps k1 (by simp)) (hd.keeps k1 (by simp)) hl he hll)
 have HC:=Lib.hid h.c_mem
 have HSLT:=Lib.hid h.lt
 have HBL:=Lib.hid hbld
 have HZI:=Lib.hid hZi
 have HW1:=Lib.hid hw1
 have HQ:=Lib.hid hq
 have HQ0:=Lib.hid hq0
 have HQ9:=Lib.hid hq9
 have HK1:=Lib.hid k1
 have HB1:=Lib.hid b1
 have HB9:=Lib.hid b9
 have HZ:=Lib.hid (And.intro hZ hZ1)
 have HSZ:=Lib.hid (show (Tryz.prog.info? 90).map (·.size)=some Z.length by rw [hZ];exact size_node)
 have HND:=Lib.hid hnd
 have HOK:=Lib.hid (decodeL_ok hnd)
 obtain ⟨n,hn⟩:∃ n,n=lc+rc:=⟨_,rfl⟩
 have en:(lc:Int)+(rc:Int)=(n:Int):=by omega
 have wn:wrap64 (n:Int)=(n:Int):=by unfold wrap64;omega
 rw [← hn] at hsn
 have hci:¬ (depth:Int)=256:=by omega
 subst hsn
 clear hbld hZi hw1 hq hq0 hq9 k1 b1 b9 hZ hZ1 hZb h hd hl he hll hnd hkl hn hsum hc
 go_enter Tryz.func52,Tryz.ntmps52
 go_upto_region 1 with (first | (refine wl_alloc rfl 90 rfl ?_;refine ⟨_,_,run_alloc _ HZI.out,?_⟩;try simp only [zA,zB,zC,zD,zE,zF,zG,zH]))
 try simp only [Value.cells]
 rw [← HW1.out,← HQ0.out,← HQ9.out]
 go_upto_region 4 with (first | (go_at_call 79;refine HLO.out.mono ?_;rintro r w2 ⟨a,cp,rfl,hown,hnew,hs2,hk2⟩))
 have hcq:c≠q∧c≠q9:=by have:=HC.out;have:=HQ.out;have:=HQ9.out;omega
 have HB2:=Lib.hid ((hk2.block q (lt_of_heap HB1.out) (by simp;omega)).trans HB1.out)
 have HB92:=Lib.hid (HB9.out.keeps hk2 (by simp;omega))
 have HS2:=Lib.hid hs2
 have HK2:=Lib.hid ((HK1.out.mono (G:=[c]) (by simp)).trans (G:=[c]) hk2 (fun j hj=>.inl hj))
 have HD2:=Lib.hid (decode_some (ownB_bytes hown) HND.out)
 clear hown hnew hs2 hk2 hcq
 go_upto_region 7 with (first | (go_at_call 80;refine HD2.out.mono ?_;rintro r w3 ⟨a3,c3,rfl,hO3,hn3,hk3⟩;obtain ⟨N,hN⟩:∃ N,N=nodeC (branchN lp lc ls rp rc rs) (.slice a3 (branchN lp lc ls rp rc rs).val.length c3):=⟨_,rfl⟩;rw [← hN];have HN:=Lib.hid (And.intro hN (And.intro (show N.length=102 by rw [hN];exact nodeC_length HOK.out _) (show ∀ v∈N,v.oneCell'=true by rw [hN];exact nodeC_ones)));have HO3:=Lib.hid (And.intro hO3 (And.intro hn3 hk3));clear hN hO3 hn3 hk3) | (refine wl_alloc rfl 90 rfl ?_;refine ⟨_,_,run_alloc _ HZI.out,?_⟩;(try simp only [Value.cells]);try simp only [zA,zB,zC,zD,zE,zF,zG,zH]) | (refine wl_store rfl 90 (.tmp 15) (.tmp 31) rfl ?_;refine ⟨_,run_store_node (heap_new_at rfl) HZ.out.1 HN.out.2.1 HN.out.2.2,?_⟩;try simp only [zA,zB,zC,zD,zE,zF,zG,zH]))
 obtain ⟨q15,hq15⟩:∃ q,q=w3.heap.size:=⟨_,rfl⟩
 obtain ⟨w5,hw5⟩:∃ x,x=(w3.alloc (.cells Z.toArray 90 (0,0))).setCells q15 0 N:=⟨_,rfl⟩
 have b15:w5.heap[q15]?=some (.cells N.toArray 90 (0,0)):=by rw [hw5];exact store_all (heap_new_at hq15) (by rw [HZ.out.1,HN.out.2.1])
 have k35:Keeps [] w3 w5:=by rw [hw5];exact ((Keeps.refl _ _).alloc _).setCells (.inr (by omega)) _ _
 have k25:Keeps [] w2 w5:=HO3.out.2.2.trans (G:=[]) k35 (by simp)
 have HB5:=Lib.hid ((k25.block q (lt_of_heap HB2.out) (by simp)).trans HB2.out)
 have HB95:=Lib.hid (HB92.out.keeps k25 (by simp))
 have HB15:=Lib.hid b15
 have HS5:=Lib.hid (HS2.out.keeps k25 (by simp))
 have HK5:=Lib.hid (HK2.out.trans (G:=[]) k25 (by simp))
 have HO5:=Lib.hid (show OwnB w5 (.slice a3 (branchN lp lc ls rp rc rs).val.length c3) (branchN lp lc ls rp rc rs).val from ownsRow_keep HO3.out.1 (fun k hk=>k35.block k (World.ownsRow.lt HO3.out.1 k hk).2 (by simp)))
 have HNB:=Lib.hid (show ∀ k,(Value.slice a3 (branchN lp lc ls rp rc rs).val.length c3).ownBlock=some k→w.heap.size≤k∧k≠q from fun k hk=>⟨Nat.le_trans HK2.out.size (HO3.out.2.1 k hk),fun e=>by have:=HO3.out.2.1 k hk;have:=lt_of_heap HB2.out;omega⟩)
 have HNQ:=Lib.hid (show q < q15 by rw [hq15];exact Nat.lt_of_lt_of_le (lt_of_heap HB2.out) HO3.out.2.2.size)
 rw [← hq15]
 rw [← hw5]
 obtain ⟨⟨n0,n1,n2,n3,n4,n5⟩,_,_,hkey,_⟩:=node_parts HOK.out (show w5.heap[q15]?=some (.cells (nodeC (branchN lp lc ls rp rc rs) (.slice a3 (branchN lp lc ls rp rc rs).val.length c3)).toArray 90 (0,0)) by rw [b15,HN.out.1])
 have HKEY:=Lib.hid hkey
 clear hq15 hw5 b15 k35 k25 hkey HO3 HS2 HK2 HB2 HB92 HD2 n1 n2 n5
 have hk0:(branchN lp lc ls rp rc rs).kind=2:=rfl
 rw [hk0] at n0
 have hl0:(branchN lp lc ls rp rc rs).lc=(lc:Int):=rfl
 have hr0:(branchN lp lc ls rp rc rs).rc=(rc:Int):=rfl
 rw [hl0] at n3
 rw [hr0] at n4
 clear hk0 hl0 hr0
 go_upto_region 16 with fail
 clear n0 n3 n4
 go_wp2_with (first | (refine wpList_load_mid rfl 90 (.tmp 15) rfl q15 0 (by rfl) N _ (rangeAt_all HB15.out) Tryz.underlying90 rfl (by rw [HN.out.2.1];exact size_node) ?_;try simp only [zA,zB,zC,zD,zE,zF,zG,zH]) | (refine wl_store rfl 90 (.tmp 10) (.tmp 62) rfl ?_;refine ⟨_,run_store_node HB5.out HZ.out.1 HN.out.2.1 HN.out.2.2,?_⟩;try simp only [zA,zB,zC,zD,zE,zF,zG,zH]))
 have k6:Keeps [q] w5 (w5.setCells q 0 N):=(Keeps.refl _ _).setCells (.inl (by simp)) _ _
 refine bodyPost_ret (results_row2 (cs:=N) rfl rfl rfl (rangeAt_all (store_all HB5.out (by rw [HZ.out.1,HN.out.2.1]))) Tryz.underlying90 rfl (by rw [HN.out.2.1];exact size_node)) rfl ⟨a3,c3,by rw [← HN.out.1];rfl,?_,?_,?_,?_⟩
 ·exact ownsRow_keep HO5.out (fun k hk=>k6.block k (World.ownsRow.lt HO5.out k hk).2 (by simp;exact (HNB.out k hk).2))
 ·exact fun k hk=>(HNB.out k hk).1
 ·refine HS5.out.keeps k6 (fun k hk e=>?_)
  simp at e
  subst e
  have:=HSLT.out k hk
  have:=HQ.out
  omega
 ·exact HK5.out.setCells (.inr (by rw [HQ.out];omega)) _ _
open Go.RowKit
def St.hit (S:St) (x:Int):St:={ S with C:={ S.C with hits:=x } }
section
variable {w:World} {s b bf c bm:Nat} {S:St} {sv:Value} {d:D} {F:List Nat} {e:Ent} {key:List UInt8}
theorem nodeAt_err (h:StoreIn w s b S bf c bm sv) (hd:DiskAt w b d F) (hl:liveE d S.f=0) (he:e∈S.C.kept) (hll:e.load.length≤246) (hkl:key.length=32) (depth:Nat) (stated:Int) (hn:nodeAtL e depth stated key=none) :
  Calls Tryz.prog 52 #[.pointer (some ⟨s,0,none⟩),.int .i64 e.key,.int .i64 depth,.int .i64 stated,.agg (key.map B).toArray] w fun r w'=>r=.returned (.tuple #[.agg (nodeC nd0 (.slice none 0 0)).toArray,.int .i64 4]) ∧
   StoreIn w' s b (S.hit (wrap64 (S.C.hits+1))) bf c bm sv∧Keeps [c] w w':=by
 unfold nodeAtL at hn
 split at hn
 ·rename_i hdec
  exact nodeAt_none h hd hl he hll hdec depth stated key
 ·rename_i nd hdec
  rcases decodeL_cases hdec with ⟨k,v,rfl,hk,hv⟩ | ⟨lp,lc,ls,rp,rc,rs,rfl,hb,h1,h2,hsum,_,_⟩
  ·rw [if_pos (show (leafN k v).kind=1 from rfl)] at hn
   have hkk:(leafN k v).key=k:=rfl
   rw [hkk] at hn
   by_cases hc:commonK k key < depth
   ·exact nodeAt_leaf_far h hd hl he hll hdec hkl hk depth stated hc
   ·rw [if_neg hc] at hn
    by_cases hst:0≤stated∧stated≠1
    ·exact nodeAt_leaf_stated h hd hl he hll hdec hkl hk depth stated hc hst
    ·rw [if_neg hst] at hn
     cases hn
  ·rw [if_neg (show ¬ (branchN lp lc ls rp rc rs).kind=1 by show ¬ (2:Int)=1;decide)] at hn
   by_cases hc:depth=256
   ·exact nodeAt_branch_deep h hd hl he hll hdec hsum hkl depth stated hc
   ·rw [if_neg hc] at hn
    have hcnt:(branchN lp lc ls rp rc rs).lc+(branchN lp lc ls rp rc rs).rc=((lc+rc:Nat):Int):=by show (lc:Int)+(rc:Int)=_;omega
    rw [hcnt] at hn
    by_cases hst:0≤stated∧stated≠((lc+rc:Nat):Int)
    ·exact nodeAt_branch_stated h hd hl he hll hdec hsum hkl depth stated hc hst
    ·rw [if_neg hst] at hn
     cases hn
theorem nodeAt_some {nd:Nde} (h:StoreIn w s b S bf c bm sv) (hd:DiskAt w b d F) (hl:liveE d S.f=0) (he:e∈S.C.kept) (hll:e.load.length≤246) (hkl:key.length=32) (depth:Nat) (stated:Int) (hn:nodeAtL e depth stated key=some nd) :
  Calls Tryz.prog 52 #[.pointer (some ⟨s,0,none⟩),.int .i64 e.key,.int .i64 depth,.int .i64 stated,.agg (key.map B).toArray] w fun r w'=>∃ a' c',r=.returned (.tuple #[.agg (nodeC nd (.slice a' nd.val.length c')).toArray,.int .i64 0])∧OwnB w' (.slice a' nd.val.length c') nd.val∧(∀ k,(Value.slice a' nd.val.length c').ownBlock=some k→w.heap.size≤k) ∧
   StoreIn w' s b (S.hit (wrap64 (S.C.hits+1))) bf c bm sv∧Keeps [c] w w':=by
 unfold nodeAtL at hn
 split at hn
 ·cases hn
 ·rename_i nd' hdec
  rcases decodeL_cases hdec with ⟨k,v,rfl,hk,hv⟩ | ⟨lp,lc,ls,rp,rc,rs,rfl,hb,h1,h2,hsum,_,_⟩
  ·rw [if_pos (show (leafN k v).kind=1 from rfl)] at hn
   have hkk:(leafN k v).key=k:=rfl
   rw [hkk] at hn
   by_cases hc:commonK k key < depth
   ·rw [if_pos hc] at hn;cases hn
   ·rw [if_neg hc] at hn
    by_cases hst:0≤stated∧stated≠1
    ·rw [if_pos hst] at hn;cases hn
    ·rw [if_neg hst] at hn
     cases hn
     rcases (show stated < 0∨stated=1 by omega) with hsn | hsn
     ·exact nodeAt_leaf_okn h hd hl he hll hdec hkl hk depth stated hc hsn
     ·exact nodeAt_leaf_oke h hd hl he hll hdec hkl hk depth stated hc hsn
  ·rw [if_neg (show ¬ (branchN lp lc ls rp rc rs).kind=1 by show ¬ (2:Int)=1;decide)] at hn
   by_cases hc:depth=256
   ·rw [if_pos hc] at hn;cases hn
   ·rw [if_neg hc] at hn
    have hcnt:(branchN lp lc ls rp rc rs).lc+(branchN lp lc ls rp rc rs).rc=((lc+rc:Nat):Int):=by show (lc:Int)+(rc:Int)=_;omega
    rw [hcnt] at hn
    by_cases hst:0≤stated∧stated≠((lc+rc:Nat):Int)
    ·rw [if_pos hst] at hn;cases hn
    ·rw [if_neg hst] at hn
     cases hn
     rcases (show stated < 0∨stated=((lc+rc:Nat):Int) by omega) with hsn | hsn
     ·exact nodeAt_branch_okn h hd hl he hll hdec hsum hkl depth stated hc hsn
     ·exact nodeAt_branch_oke h hd hl he hll hdec hsum hkl depth stated hc hsn
end
theorem nodeAtL_cases {e:Ent} {depth:Nat} {stated:Int} {key:List UInt8} {nd:Nde} (hn:nodeAtL e depth stated key=some nd) :
  (∃ k v,nd=leafN k v∧k.length=32∧v.length≤128∧depth≤commonK k key)∨∃ lp lc ls rp rc rs,nd=branchN lp lc ls rp rc rs∧branchOk lp lc ls rp rc rs=true∧ls.length=32∧rs.length=32∧depth≠256:=by
 unfold nodeAtL at hn
 split at hn
 ·cases hn
 ·rename_i nd' hdec
  rcases decodeL_cases hdec with ⟨k,v,rfl,hk,hv⟩ | ⟨lp,lc,ls,rp,rc,rs,rfl,hb,h1,h2,hsum,_,_⟩
  ·rw [if_pos (show (leafN k v).kind=1 from rfl)] at hn
   split at hn
   ·cases hn
   ·rename_i hc
    split at hn
    ·cases hn
    ·cases hn
     exact .inl ⟨k,v,rfl,hk,hv,Nat.le_of_not_lt hc⟩
  ·rw [if_neg (show ¬ (branchN lp lc ls rp rc rs).kind=1 by show ¬ (2:Int)=1;decide)] at hn
   split at hn
   ·cases hn
   ·rename_i hc
    split at hn
    ·cases hn
    ·cases hn
     exact .inr ⟨_,_,_,_,_,_,rfl,hb,h1,h2,hc⟩
theorem childOk_page {p c:Nat} {s:List UInt8} (h:childOk p c s=true):p=0∨2≤p∧p < 4096:=by
 unfold childOk at h
 by_cases e:p=0
 ·exact .inl e
 ·rw [if_neg e] at h
  simp only [Bool.and_eq_true,decide_eq_true_eq] at h
  exact .inr ⟨h.1.1.1,h.1.1.2⟩
def dNext (nd:Nde) (b:Nat):Int:=if b=1 then nd.right else nd.left
def dOther (nd:Nde) (b:Nat):Int:=if b=1 then nd.left else nd.right
def dStated (nd:Nde) (b:Nat):Int:=if b=1 then nd.rc else nd.lc
def dSum (nd:Nde) (b:Nat):List UInt8:=if b=1 then nd.ls else nd.rs
def dSums (S:List (List UInt8)) (nd:Nde) (depth b:Nat):List (List UInt8):=if dOther nd b=0 then S else S.set (255 - depth) (dSum nd b)
inductive DR
 | err
 | none
 | leaf (nd:Nde)
def downL (kept:List Ent) (mark:Int) (key:List UInt8):Nat→Int→Int→Nat→List (List UInt8)→List (List UInt8) × DR
 | 0,_,_,_,S=>(S,.err)
 | f+1,page,stated,depth,S =>
  if page=0 then (S,.none)
  else match kept[(page - mark).toNat]? with
   | Option.none=>(S,.err)
   | some e =>
    match nodeAtL e depth stated key with
    | Option.none=>(S,.err)
    | some nd =>
     if nd.kind=1 then (S,.leaf nd)
     else if page≤dNext nd (bitK key depth) then (dSums S nd depth (bitK key depth),.err)
     else downL kept mark key f (dNext nd (bitK key depth)) (dStated nd (bitK key depth)) (depth+1) (dSums S nd depth (bitK key depth))
end Go.Proofs.YtakaocenbempmaaGreatDoor
