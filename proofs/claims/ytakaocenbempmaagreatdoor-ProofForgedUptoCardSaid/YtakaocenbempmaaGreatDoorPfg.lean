/-
  Lemmas of a claim, bundle g: XLfD XLfF.
-/
import Derived.Test.YtakaocenbempmaaGreatDoorPff
set_option linter.unusedVariables false
set_option linter.unusedSimpArgs false
namespace Go.Proofs.YtakaocenbempmaaGreatDoor
open Go.RowKit
def PgArg (w:World) (v:Value) (L:List (Int × List UInt8)):Prop :=
 (L=[]∧∃ a c,v=.slice a 0 c∧c≤maxLen)∨∃ g o cap,v=.slice (some ⟨g,o,none⟩) L.length cap∧L.length≤cap∧cap≤maxLen∧g < w.heap.size∧∀ k (hk:k < L.length),∃ lv,w.rangeAt g (o+k * 2) [.int .i64 L[k].1,lv]∧BytesAt w lv L[k].2
def AskArg (w:World) (v:Value) (L:List (Int × List UInt8)):Prop :=
 (L=[]∧∃ a c,v=.slice a 0 c∧c≤maxLen)∨∃ g o cap,v=.slice (some ⟨g,o,none⟩) L.length cap∧L.length≤cap∧cap≤maxLen∧g < w.heap.size∧∀ k (hk:k < L.length),w.rangeAt g (o+k * 33) (.int .i64 L[k].1 :: L[k].2.map B)∧L[k].2.length=32
theorem PgArg.form {w:World} {v:Value} {L:List (Int × List UInt8)} (h:PgArg w v L):∃ a c,v=.slice a L.length c:=by
 rcases h with ⟨rfl,a,c,rfl,_⟩ | ⟨g,o,cap,rfl,_⟩
 ·exact ⟨_,_,rfl⟩
 ·exact ⟨_,_,rfl⟩
theorem AskArg.form {w:World} {v:Value} {L:List (Int × List UInt8)} (h:AskArg w v L):∃ a c,v=.slice a L.length c:=by
 rcases h with ⟨rfl,a,c,rfl,_⟩ | ⟨g,o,cap,rfl,_⟩
 ·exact ⟨_,_,rfl⟩
 ·exact ⟨_,_,rfl⟩
theorem PgArg.at {w:World} {a:Option Addr} {n c:Nat} {L:List (Int × List UInt8)} (h:PgArg w (.slice a n c) L) {k:Nat} {x:Int × List UInt8} (hx:L[k]?=some x):∃ g o lv,a=some ⟨g,o,none⟩∧g < w.heap.size∧w.rangeAt g (o+k * 2) [.int .i64 x.1,lv]∧BytesAt w lv x.2:=by
 obtain ⟨hk,rfl⟩:=List.getElem?_eq_some_iff.1 hx
 rcases h with ⟨rfl,_⟩ | ⟨g,o,cap,hv,_,_,h3,h4⟩
 ·simp at hk
 ·injection hv with e _ _
  obtain ⟨lv,h5,h6⟩:=h4 k hk
  exact ⟨g,o,lv,e,h3,h5,h6⟩
theorem AskArg.at {w:World} {a:Option Addr} {n c:Nat} {L:List (Int × List UInt8)} (h:AskArg w (.slice a n c) L) {k:Nat} {x:Int × List UInt8} (hx:L[k]?=some x):∃ g o,a=some ⟨g,o,none⟩∧g < w.heap.size∧w.rangeAt g (o+k * 33) (.int .i64 x.1 :: x.2.map B)∧x.2.length=32:=by
 obtain ⟨hk,rfl⟩:=List.getElem?_eq_some_iff.1 hx
 rcases h with ⟨rfl,_⟩ | ⟨g,o,cap,hv,_,_,h3,h4⟩
 ·simp at hk
 ·injection hv with e _ _
  exact ⟨g,o,e,h3,h4 k hk⟩
theorem info_rpages:(Tryz.prog.info? 32).map (fun i=>(i.zero,i.size,i.bytes))=some (some (.agg #[.slice none 0 0,.slice none 0 0]),2,48):=by kernel_rfl
structure Sok (fv:Fi) (S:St):Prop where
 f:S.f=fv
 kept:∀ e∈S.C.kept,e.load.length≤246
theorem entL_stage (S:St) (e:Ent):entL (S.stage e).C.kept=entL S.C.kept++[(e.kind,e.load)]:=by simp [entL,St.stage]
theorem Sok.stage {fv:Fi} {S:St} (h:Sok fv S) {e:Ent} (he:e.load.length≤246):Sok fv (S.stage e) :=
 ⟨h.f,fun x hx=>by
  rcases List.mem_append.1 (show x∈S.C.kept++[e] from hx) with hx | hx
  ·exact h.kept x hx
  ·simp only [List.mem_singleton] at hx;rw [hx];exact he⟩
theorem Tabs.below {w w':World} (h:Tabs w) (hb:Below w.heap.size w w'):Tabs w' :=
 ⟨fun i hi=>(World.cell?_of_block (w:=w) (w':=w') (a:=⟨2,i,none⟩) (hb.block _ h.lt.1)).trans (h.round i hi),fun i hi=>(World.cell?_of_block (w:=w) (w':=w') (a:=⟨0,i,none⟩) (hb.block _ h.lt.2)).trans (h.begin i hi),by have:=hb.size;have:=h.lt;omega⟩
theorem RTabs.below {w w':World} (h:RTabs w) (hb:Below w.heap.size w w'):RTabs w' :=
 ⟨fun i hi=>(World.cell?_of_block (w:=w) (w':=w') (a:=⟨3,i,none⟩) (hb.block _ h.lt.1)).trans (h.round i hi),fun i hi=>(World.cell?_of_block (w:=w) (w':=w') (a:=⟨1,i,none⟩) (hb.block _ h.lt.2)).trans (h.begin i hi),by have:=hb.size;have:=h.lt;omega⟩
def okP (x:Int × List UInt8):Prop:=1≤x.1∧x.1≤3∧x.2.length≤246
theorem Sok.hit {fv:Fi} {S:St} (h:Sok fv S) (x:Int):Sok fv (S.hit x):=⟨h.f,h.kept⟩
theorem stage_any {w:World} {s b:Nat} {S:St} {d:D} {F G:List Nat} {v:Value} {x:Int × List UInt8} {fv:Fi} (h:StoreOn w s b S d F G) (hS:Sok fv S) (hm:fv.sup.mark=2) (hl:liveE d fv=0) (hv:BytesAt w v x.2) (hroom:2+S.C.kept.length < d.n) :
  Calls Tryz.prog 6 #[.pointer (some ⟨s,0,none⟩),.int .i64 x.1,v] w fun e w'=>∃ (nn er:Int) (S':St) (G':List Nat),e=.returned (.tuple #[.int .i64 nn,.int .i64 er])∧StoreOn w' s b S' d F G'∧Keeps G w w'∧From w G G'∧Sok fv S' ∧
   ((okP x∧nn=2+S.C.kept.length∧er=0∧entL S'.C.kept=entL S.C.kept++[x])∨(¬ okP x∧S'=S)):=by
 have hl':liveE d S.f=0:=by rw [hS.f];exact hl
 have hm':S.f.sup.mark=2:=by rw [hS.f];exact hm
 by_cases hk:1≤x.1∧x.1≤3
 ·by_cases hll:x.2.length≤246
  ·have:=stage_ok h hl' hv hll (by rw [hm'];omega) hk
   rw [hm'] at this
   refine this.mono ?_
   rintro e w' ⟨rfl,eb,lv,G',hs,hk',hf⟩
   exact ⟨_,_,_,G',rfl,hs,hk',hf,hS.stage hll,.inl ⟨⟨hk.1,hk.2,hll⟩,rfl,rfl,entL_stage S _⟩⟩
  ·obtain ⟨hd,⟨bf,c,bm,sv,hs,rfl⟩,hap⟩:=h
   refine (sStage_load hs hd hl' hk hv (by omega)).mono ?_
   rintro e w' ⟨rfl,hk'⟩
   exact ⟨_,_,S,_,rfl,StoreOn.keeps ⟨hd,⟨bf,c,bm,sv,hs,rfl⟩,hap⟩ hk' (by simp) (by simp),hk'.mono (by simp),From.refl _ _,hS,.inr ⟨fun h=>hll h.2.2,rfl⟩⟩
 ·obtain ⟨hd,⟨bf,c,bm,sv,hs,rfl⟩,hap⟩:=h
  refine (sStage_kind hs hd hl' (by omega)).mono ?_
  rintro e w' ⟨rfl,hk'⟩
  exact ⟨_,_,S,_,rfl,StoreOn.keeps ⟨hd,⟨bf,c,bm,sv,hs,rfl⟩,hap⟩ hk' (by simp) (by simp),hk'.mono (by simp),From.refl _ _,hS,.inr ⟨fun h=>hk ⟨h.1,h.2.1⟩,rfl⟩⟩
theorem size_rpages2 (kv lv:Value):(Tryz.prog.info? 32).map (·.size)=some ([kv,lv]:List Value).length:=by kernel_rfl
theorem At.tl {w0 w:World} {t:Thing} {L:List Thing} (h:At w0 w (t :: L)):At w0 w L:=⟨h.below,⟨fun s hs=>h.live.all s (List.mem_cons_of_mem _ hs),h.live.apart.tail⟩⟩
set_option maxRecDepth 100000 in
set_option maxHeartbeats 6400000 in
theorem forged_fit {w:World} {width room:Nat} {pv av:Value} {L A:List (Int × List UInt8)} (h1:1≤width) (h2:width≤32) (h3:1≤room) (h4:room≤4096) (hp:PgArg w pv L) (ha:AskArg w av A) (hL:L.length≤4000) (hld:∀ p∈L,p.2.length≤1048576) (hA:A.length≤1048576) (ht:Tabs w) (htr:RTabs w) :
  Calls Tryz.prog 3 #[.int .i64 width,.int .i64 room,pv,av] w fun e w'=>e=.returned (.bool true)∧Below w.heap.size w w':=by
 have hfit:=fun (wx:World)=>cFits_any (w:=wx) width room
 rw [decide_eq_true (by omega)] at hfit
 obtain ⟨pa,pc,rfl⟩:=hp.form
 obtain ⟨aa,avc,rfl⟩:=ha.form
 have hpat:=fun (k:Nat) (x:Int × List UInt8) (hk:L[k]?=some x)=>hp.at hk
 have haat:=fun (k:Nat) (x:Int × List UInt8) (hk:A[k]?=some x)=>ha.at hk
 obtain ⟨N,hN⟩:∃ N,N=L.length:=⟨_,rfl⟩
 obtain ⟨M,hM⟩:∃ M,M=A.length:=⟨_,rfl⟩
 have CF:=cFresh_ok (w:=w) (n:=N+3) (width:=width) (room:=room) (by omega) (by omega) h1 h2 h4
 rw [show ((N+3:Nat):Int)=(N:Int)+3 by omega] at CF
 rw [← hN] at hL ⊢
 rw [← hM] at hA ⊢
 have hL2:(N:Int)≤4000:=by omega
 have HP:=Lib.hid hpat
 have HA:=Lib.hid haat
 have HFIT:=Lib.hid hfit
 have CF':=Lib.hid CF
 have HT:=Lib.hid ht
 have HTR:=Lib.hid htr
 have HWR:=Lib.hid (And.intro h1 (And.intro h2 (And.intro h3 h4)))
 have HLD:=Lib.hid hld
 have HN:=Lib.hid hN
 have HM:=Lib.hid hM
 clear hfit hpat haat ht htr h1 h2 h3 h4 hld hN hM CF hp ha
 go_enter Tryz.func3,Tryz.ntmps3
 go_upto_region 3 with (first | (go_at_call 4;refine (HFIT.out _).mono ?_;rintro e wy ⟨rfl,rfl⟩))
 go_upto_region 6 with (first | (go_at_call 5;refine CF'.out.mono ?_;rintro e w1 ⟨b,st,F,G,rfl,hon,hF,hG,hk1⟩))
 obtain ⟨d0,hd0⟩:∃ d,d=openD (fmtD (D.new (N+3)) width):=⟨_,rfl⟩
 obtain ⟨S0,hS0⟩:∃ S:St,S=⟨⟨supB width ((N:Int)+3),2,1⟩,⟨room,[],[],0,0,0⟩⟩:=⟨_,rfl⟩
 obtain ⟨fv,hfv⟩:∃ f:Fi,f=⟨supB width ((N:Int)+3),2,1⟩:=⟨_,rfl⟩
 have hd0':d0.n=N+3∧d0.dead=false∧d0.epoch=1:=by
  obtain ⟨f1,f2,f3,f4,f5⟩:=fmt_new (n:=N+3) (by omega) (by omega) HWR.out.1 HWR.out.2.1
  rw [hd0]
  refine ⟨f3,f1.dead,?_⟩
  show wrap64 ((fmtD (D.new (N+3)) width).epoch+1)=1
  rw [f5]
  simp [wrap64]
 have hsok0:Sok fv S0∧S0.C.kept=[]:=by rw [hS0,hfv];exact ⟨⟨rfl,fun e he=>by simp at he⟩,rfl⟩
 have hfv':fv.sup.mark=2∧fv.sup.width=width∧fv.mine=1:=by rw [hfv];exact ⟨rfl,rfl,rfl⟩
 have hon0:StoreOn w1 st b S0 d0 F G:=by rw [hS0,hd0];exact hon
 have hlive:liveE d0 fv=0:=by
  unfold liveE
  rw [if_neg (by rw [hd0'.2.2,hfv'.2.2];simp),if_neg (by rw [hd0'.2.1];simp)]
 have K1:=(At.start w).add (t:=storeThing st b S0 d0 F G) hk1 hon0 (fun k hk=>.inr (by rcases List.mem_append.1 hk with hk | hk;exact hF k hk;exact hG k hk))
 have HD0:=Lib.hid hd0'
 have HS0:=Lib.hid hsok0
 have HFV:=Lib.hid hfv'
 have HLV:=Lib.hid hlive
 have HON0:=Lib.hid hon0
 have HK1:=Lib.hid K1
 clear hd0 hS0 hfv hd0' hsok0 hfv' hon hon0 hlive hF hG hk1 K1 CF'
 go_upto_region 7 with (first | (refine wl_alloc rfl 32 rfl ?_;refine ⟨_,_,run_alloc _ info_rpages,?_⟩;try simp only [zA,zB,zC,zD,zE,zF,zG,zH]))
 (try simp only [Value.cells])
 obtain ⟨q,hq⟩:∃ q,q=w1.heap.size:=⟨_,rfl⟩
 obtain ⟨w2,hw2⟩:∃ x,x=w1.alloc (.cells #[.slice none 0 0,.slice none 0 0] 32 (0,0)):=⟨_,rfl⟩
 rw [← hw2,← hq]
 have hk2:Keeps [] w1 w2:=by rw [hw2];exact (Keeps.refl _ _).alloc _
 have hpg:PgOwn w2 q (.slice none 0 0) (.slice none 0 0) (entL S0.C.kept) []:=by
  rw [HS0.out.2]
  exact ⟨by rw [hw2];exact heap_new_at hq,World.ownsRow_nil _ _ _ _,World.ownsRow_nil _ _ _ _,fun i v p hv hp=>by simp at hv⟩
 have HK2:=Lib.hid (HK1.out.add (t:=pagesThing q (.slice none 0 0) (.slice none 0 0) (entL S0.C.kept) []) hk2 hpg (fun k hk=>.inr (by simp [pagesThing,pgF,Value.ownBlock] at hk;omega)))
 clear hq hw2 hk2 hpg
 go_wp2_with fail
 go_loopw [12] (fun iv wr=>∃ (i:Nat) (S:St) (G:List Nat) (kv lv:Value) (vs:List Value),i≤N∧iv=.int .i64 i∧S.C.kept.length≤i∧Sok fv S∧At w wr [pagesThing q kv lv (entL S.C.kept) vs,storeThing st b S d0 F G]) (fun iv _=>N - (intOf iv).toNat)
 case atStart=>exact ⟨0,S0,G,_,_,[],Nat.zero_le _,rfl,by rw [HS0.out.2];simp,HS0.out.1,HK2.out⟩
 case round =>
  obtain ⟨i,S,G1,kv,lv,vs,hi,rfl,hkl,hsok,hat⟩:=hrel
  have i0:(0:Int)≤(i:Int):=by omega
  have HAT:=Lib.hid hat
  have HSOK:=Lib.hid hsok
  have HKL:=Lib.hid hkl
  clear hat hsok hkl HK1 HK2 HON0
  by_cases hlt:i < N
  ·have i1:(i:Int) < (N:Int):=by omega
   obtain ⟨x,hx⟩:∃ x,L[i]?=some x:=⟨_,List.getElem?_eq_getElem (by rw [← HN.out];exact hlt)⟩
   obtain ⟨g,o,lvx,rfl,hg,hrg,hbx⟩:=HP.out i x hx
   have hlx:x.2.length≤1048576:=HLD.out x (List.mem_of_getElem? hx)
   obtain ⟨lxa,lxc,rfl,_,_⟩:=hbx.form
   have hrg2:∀ wx,Below w.heap.size w wx→wx.cell? ⟨g,o+i * 2,none⟩=some (.int .i64 x.1)∧wx.cell? ⟨g,o+i * 2+1,none⟩=some (.slice lxa x.2.length lxc):=fun wx hb=>by
    have hr:=rangeAt_of_heap hrg (hb.block g hg)
    exact ⟨by simpa using hr 0 _ rfl,hr 1 _ rfl⟩
   have HRG:=Lib.hid hrg2
   have hbx2:=fun (wx:World) (hb:Below w.heap.size w wx)=>hbx.of_heap hb.size (fun k _ hk=>hb.block k hk)
   have HBX:=Lib.hid hbx2
   obtain ⟨p1,p2⟩:=hrg2 wr HAT.out.below
   have hcp:=fun (wx:World) (hb:Below w.heap.size w wx)=>copyBytes_any (hbx2 wx hb) (by omega)
   have HCP:=Lib.hid hcp
   have HLX:=Lib.hid hlx
   have HX:=Lib.hid hx
   clear hrg hbx hrg2 hbx2 hcp hlx hx
   go_upto_region 10 with fail
   refine wp_region_held_drew (S:=(fun wx=>wx.cell? ⟨g,o+i * 2,none⟩=some (.int .i64 x.1)∧wx.cell? ⟨g,o+i * 2+1,none⟩=some (.slice lxa x.2.length lxc))) (by kernel_rfl) ?_ (fun hHeld=>?_)
   ·exact ⟨p1,p2⟩
   refine tk 0 ?_
   refine tk 1 ?_
   refine tk 2 ?_
   refine tk 3 ?_
   refine tk 4 ?_
   refine tk 5 ?_
   refine tk 6 ?_
   refine tk 7 ?_
   refine tk 8 ?_
   refine tk 9 ?_
   refine tk 10 ?_
   clear hHeld p1 p2
   refine ac 11 fun K hK=>?_
   go_simp
   refine (HCP.out _ (HAT.out.keep (Keeps.refl _ _).drew).below).mono ?_
   rintro e w3 ⟨cv,rfl,hcv,hcvn,hk3⟩
   have HAT3:=Lib.hid ((HAT.out.keep (Keeps.refl _ _).drew).keep hk3)
   have HCV:=Lib.hid hcv
   clear hcv hcvn hk3 HAT
   refine hK.out _ _ ?_ (fun hHeld=>?_)
   ·exact HRG.out _ HAT3.out.below
   clear hK K
   try simp only [zA,zB,zC,zD,zE,zF,zG,zH]
   have CST:=Lib.hid (stage_any (show StoreOn w3 st b S d0 F G1 from HAT3.out.live.get (i:=1) rfl) HSOK.out HFV.out.1 HLV.out (ownB_bytes HCV.out) (by rw [HD0.out.1];have:=HKL.out;omega))
   clear hHeld
   refine ac 12 fun K hK=>?_
   go_simp
   refine CST.out.mono ?_
   rintro e w4 ⟨nn,er,S',G',rfl,hon4,hk4,hf4,hsok4,hcase⟩
   have hat4:=HAT3.out.upd 1 rfl (t':=storeThing st b S' d0 F G') (hk4.mono (fun k hk=>.inl (List.mem_append.2 (.inr hk)))) hon4 (fun k hk=>by
    rcases List.mem_append.1 hk with hk | hk
    ·exact .inl (List.mem_append.2 (.inl hk))
    ·rcases hf4 k hk with hk | hk
     ·exact .inl (List.mem_append.2 (.inr hk))
     ·exact .inr hk)
   simp only [List.set_cons_succ,List.set_cons_zero] at hat4
   have HAT4:=Lib.hid hat4
   have HSOK4:=Lib.hid hsok4
   have HCASE:=Lib.hid hcase
   clear hon4 hk4 hf4 hsok4 hcase hat4 CST HAT3 HCV HSOK
   refine hK.out _ _ ?_ (fun hHeld=>?_)
   ·exact HRG.out _ HAT4.out.below
   clear hK K
   try simp only [zA,zB,zC,zD,zE,zF,zG,zH]
   refine tk 13 ?_
   refine tk 14 ?_
   refine tk 15 ?_
   refine tk 16 ?_
   refine tk 17 ?_
   refine wpAnyH_done (by kernel_rfl) ?_ _
   clear hHeld
   obtain ⟨p1,p2⟩:=HRG.out _ HAT4.out.below
   have hlen:∀ n:Nat,n=x.2.length→(0:Int)≤n:=fun n _=>by omega
   obtain ⟨ll,hll⟩:∃ ll,ll=x.2.length:=⟨_,rfl⟩
   obtain ⟨xk,hxk⟩:∃ xk,xk=x.1:=⟨_,rfl⟩
   rw [← hll] at p2 ⊢
   rw [← hxk] at p1 ⊢
   have HLL:=Lib.hid hll
   have HXK:=Lib.hid hxk
   clear hll hxk hlen
   by_cases hok:okP x
   ·have hcase:=(HCASE.out.resolve_right (fun h=>h.1 hok)).2
    obtain ⟨rfl,rfl,hent⟩:=hcase
    have q1:¬ xk < 1:=by have:=hok.1;rw [HXK.out];omega
    have q2:¬ 3 < xk:=by have:=hok.2.1;rw [HXK.out];omega
    have q3:¬ 246 < (ll:Int):=by have:=hok.2.2;rw [HLL.out];omega
    have HENT:=Lib.hid hent
    clear hent HCASE hok
    go_upto_region 12 with fail
    clear q1 q2 q3 hlt
    have hpg:PgOwn w4 q kv lv (entL S.C.kept) vs:=HAT4.out.live.get (i:=0) rfl
    obtain ⟨KN,hK⟩:∃ KN,KN=(entL S.C.kept).length:=⟨_,rfl⟩
    have hK2:KN=S.C.kept.length:=by rw [hK];simp [entL]
    obtain ⟨ka,kc,rfl⟩:=own_form hpg.kinds
    obtain ⟨la,lc,rfl⟩:=own_form hpg.loads
    have hn1:=fun (wx:World)=>qNext_any (w:=wx) (a:=ka) (a2:=la) (n:=KN) (c:=kc) (n2:=KN) (c2:=lc) (by have:=HKL.out;omega)
    have hn2:=fun (m:Int) (e:m=2+(KN:Int)) (wx:World)=>(show Calls Tryz.prog 8 #[.agg #[.slice ka KN kc,.slice la KN lc]] wx fun e w'=>e=.returned (.int .i64 m)∧Keeps [] wx w' by
     have h:=hn1 wx
     rw [show ((2+KN:Nat):Int)=m by omega] at h
     exact h)
    obtain ⟨m,hm⟩:∃ m:Int,m=2+(S.C.kept.length:Int):=⟨_,rfl⟩
    have HNX:=Lib.hid (hn2 m (by rw [hm,hK2]))
    have HRP:=Lib.hid (rangeAt_all hpg.root)
    rw [← hK] at hpg HRP HAT4
    rw [← hm]
    have HSZ:=Lib.hid (size_rpages2 (.slice ka KN kc) (.slice la KN lc))
    have HK:=Lib.hid hK
    have HK2':=Lib.hid hK2
    have m0:(m != m)=false:=by simp
    clear hn1 hn2 hm hK hK2 hpg
    go_upto_region 14 with (first | (refine Go.BigFrame.wpList_want (by rfl) fun Kx hKx=>wp_load_mid 32 (.tmp 11) rfl q 0 (by rfl) [.slice ka KN kc,.slice la KN lc] _ HRP.out Tryz.underlying32 rfl HSZ.out (hKx _ _ ?_);try simp only [zA,zB,zC,zD,zE,zF,zG,zH]) | (go_at_call 8;refine (HNX.out _).mono ?_;rintro e w5 ⟨rfl,hk5⟩))
    have HAT5:=Lib.hid (HAT4.out.keep hk5)
    have hpg5:PgOwn w5 q (.slice ka KN kc) (.slice la KN lc) (entL S.C.kept) vs:=HAT5.out.live.get (i:=0) rfl
    obtain ⟨c0,c1⟩:=hpg5.cells
    obtain ⟨p1,p2⟩:=HRG.out w5 HAT5.out.below
    rw [← HXK.out] at p1
    have f0:w5.frozen? ⟨q,0,none⟩=false:=frozen_of_row w5 q 0 _ _ hpg5.root
    have hgk:(Value.slice ka KN kc).ownBlock≠some g∧(Value.slice ka KN kc).ownBlock≠some q∧g≠q:=by
     have hge:=HAT5.out.ge 0 (t:=pagesThing q (.slice ka KN kc) (.slice la KN lc) (entL S.C.kept) vs) rfl
     refine ⟨fun e=>?_,fun e=>?_,fun e=>?_⟩
     ·have:=hge g (mem_pgF.2 (.inr (.inl e)));omega
     ·obtain ⟨c,hc⟩:=own_type hpg5.kinds e
      exact t_int_pages (ty_apart hc hpg5.root)
     ·have:=hge q (mem_pgF.2 (.inl rfl));omega
    have hinv:∀ wx:World,wx.heap[q]?=w5.heap[q]?→wx.heap[g]?=w5.heap[g]?→wx.cell? ⟨q,0,none⟩=some (.slice ka KN kc)∧wx.cell? ⟨g,o+i * 2,none⟩=some (.int .i64 xk):=fun wx e1 e2=>⟨(cell_of_heap e1 0).trans c0,(cell_of_heap e2 _).trans p1⟩
    have hg5:g < w5.heap.size:=Nat.lt_of_lt_of_le hg HAT5.out.below.size
    have hq5:q < w5.heap.size:=lt_of_heap hpg5.root
    have HGK:=Lib.hid (And.intro hgk (And.intro hg5 hq5))
    have HINV:=Lib.hid hinv
    have HPG5:=Lib.hid hpg5
    have HOWN:=Lib.hid (show w5.drew.ownsRow 0 3 1 (.slice ka KN kc) KN ((entL S.C.kept).map kindV) from HK.out ▸ hpg5.kinds)
    clear hk5 hgk hinv hg5 hq5 hpg5 HAT4 p2 c1 HNX HRP HSZ
    refine rl_start (fun wx=>wx.cell? ⟨q,0,none⟩=some (.slice ka KN kc)∧wx.cell? ⟨g,o+i * 2,none⟩=some (.int .i64 xk)) 10 (by kernel_rfl) ?_ (fun hHeld=>?_)
    ·exact ⟨c0,p1⟩
    refine rk 0 ?_
    refine rk 1 ?_
    refine rk 2 ?_
    refine rk 3 ?_
    refine rk 4 ?_
    refine rk 5 ?_
    refine rk 6 ?_
    clear hHeld
    refine rl_act (i:=7) (by kernel_rfl) rfl (fun K hK=>?_)
    (refine st_buildSlice rfl 29 1 #[(0,.tmp 102)] #[(0,.int .i64 xk)] rfl (by simp [Act.eval]) ?_;refine ⟨_,_,run_buildSlice_i1 _ _,?_⟩;try simp only [zA,zB,zC,zD,zE,zF,zG,zH])
    refine hK.out _ _ ?_ (fun hHeld=>?_)
    ·exact HINV.out _ (heap_old_at HGK.out.2.2) (heap_old_at HGK.out.2.1)
    clear hK K
    try simp only [zA,zB,zC,zD,zE,zF,zG,zH]
    clear hHeld
    refine rl_act (i:=8) (by kernel_rfl) rfl (fun K hK=>?_)
    refine step_appC 29 3 (.int .i64 0) 8 Tryz.underlying29 info_int' rfl (by omega) rfl (.tmp 97) (.tmp 103) rfl 0 (.slice ka KN kc) KN ((entL S.C.kept).map kindV) rfl HOWN.out (.int .i64 xk) rfl rfl rfl (by have:=HK2'.out;have:=HKL.out;omega) (Nat.zero_le _) ?_
    intro kv' w6 hown6 hk6 hf6
    obtain ⟨ka',kc',rfl⟩:=own_form hown6
    have hb6:∀ k,k < w5.heap.size→(Value.slice ka KN kc).ownBlock≠some k→w6.heap[k]?=w5.heap[k]?:=fun k h1 h2=>hk6.block k h1 (by simpa using h2)
    have f6:w6.frozen? ⟨q,0,none⟩=false:=frozen_of_row w6 q 0 _ _ ((hb6 q HGK.out.2.2 HGK.out.1.2.1).trans HPG5.out.root)
    have hi6:=HINV.out w6 (hb6 q HGK.out.2.2 HGK.out.1.2.1) (hb6 g HGK.out.2.1 HGK.out.1.1)
    have c6:=hi6.1
    have HI6:=Lib.hid hi6
    have HOWN6:=Lib.hid hown6
    have HK6:=Lib.hid hk6
    have HF6:=Lib.hid hf6
    clear hown6 hk6 hf6 hb6 hi6
    refine hK.out _ _ ?_ (fun hHeld=>?_)
    ·exact HI6.out
    clear hK K
    try simp only [zA,zB,zC,zD,zE,zF,zG,zH]
    refine rk 9 ?_
    clear hHeld
    refine rl_last (by kernel_rfl) (by kernel_rfl) rfl (fun K hK=>?_)
    go_simp
    refine hK.out _ _ ?_
    clear hK K
    try simp only [zA,zB,zC,zD,zE,zF,zG,zH]
    obtain ⟨w7,hw7⟩:∃ y,y=w6.setCell ⟨q,0,none⟩ (.slice ka' (KN+1) kc'):=⟨_,rfl⟩
    rw [← hw7]
    have r:=HPG5.out.two.addKind (w1:=w6) (kv':=.slice ka' (KN+1) kc') (x:=x) (by have h:=HOWN6.out;have e:=HK.out;have e2:=HXK.out;subst e2;rw [← e];exact h) (((Keeps.refl [] w5).drew).mono (by simp) |>.trans HK6.out (fun k hk=>.inl hk)) HF6.out
    rw [← hw7] at r
    have HAT7:=Lib.hid (HAT5.out.upd 0 rfl r.2.1 (t':=pagesTwo q (.slice ka' (KN+1) kc') (.slice la KN lc) (entL S.C.kept++[x]) (entL S.C.kept) vs) r.1 r.2.2)
    have HPG7:=Lib.hid r.1
    clear hw7 r HOWN6 HK6 HF6 HI6 HOWN HPG5 HINV HGK HAT5 c0 c6 f0 f6 p1
    have c1:w7.cell? ⟨q,1,none⟩=some (.slice la KN lc):=by rw [cell_of_row w7 q _ _ _ _ HPG7.out.root];rfl
    obtain ⟨_,p2⟩:=HRG.out w7 HAT7.out.below
    rw [← HLL.out] at p2
    have f1:w7.frozen? ⟨q,1,none⟩=false:=frozen_of_row w7 q 1 _ _ HPG7.out.root
    have hgk:(Value.slice la KN lc).ownBlock≠some g∧(Value.slice la KN lc).ownBlock≠some q∧g≠q:=by
     have hge:=HAT7.out.ge 0 (t:=pagesTwo q (.slice ka' (KN+1) kc') (.slice la KN lc) (entL S.C.kept++[x]) (entL S.C.kept) vs) rfl
     refine ⟨fun e=>?_,fun e=>?_,fun e=>?_⟩
     ·have:=hge g (mem_pgF.2 (.inr (.inr (.inl e))));omega
     ·obtain ⟨c,hc⟩:=own_type HPG7.out.loads e
      exact t_bytes_pages (ty_apart hc HPG7.out.root)
     ·have:=hge q (mem_pgF.2 (.inl rfl));omega
    have hinv:∀ wx:World,wx.heap[q]?=w7.heap[q]?→wx.heap[g]?=w7.heap[g]?→wx.cell? ⟨q,1,none⟩=some (.slice la KN lc)∧wx.cell? ⟨g,o+i * 2+1,none⟩=some (.slice lxa ll lxc):=fun wx e1 e2=>⟨(cell_of_heap e1 1).trans c1,(cell_of_heap e2 _).trans p2⟩
    have hg7:g < w7.heap.size:=Nat.lt_of_lt_of_le hg HAT7.out.below.size
    have hq7:q < w7.heap.size:=lt_of_heap HPG7.out.root
    have HGK:=Lib.hid (And.intro hgk (And.intro hg7 hq7))
    have HINV:=Lib.hid hinv
    have hcp7:=HCP.out w7.drew (HAT7.out.keep (Keeps.refl _ _).drew).below
    have hxl:x.2.length=ll:=HLL.out.symm
    rw [hxl] at hcp7
    have HCP7:=Lib.hid hcp7
    clear hgk hinv hg7 hq7 hcp7 HCP
    go_upto_region 15 with fail
    refine rl_start (fun wx=>wx.cell? ⟨q,1,none⟩=some (.slice la KN lc)∧wx.cell? ⟨g,o+i * 2+1,none⟩=some (.slice lxa ll lxc)) 11 (by kernel_rfl) ?_ (fun hHeld=>?_)
    ·exact ⟨c1,p2⟩
    refine rk 0 ?_
    refine rk 1 ?_
    refine rk 2 ?_
    refine rk 3 ?_
    refine rk 4 ?_
    refine rk 5 ?_
    refine rk 6 ?_
    clear hHeld
    refine rl_act (i:=7) (by kernel_rfl) rfl (fun K hK=>?_)
    go_simp
    refine HCP7.out.mono ?_
    rintro e w8 ⟨cv',rfl,hcv8,hcvn,hk8⟩
    obtain ⟨ca,cc,rfl⟩:=own_form hcv8
    have hk78:Keeps [] w7 w8:=((Keeps.refl [] w7).drew).trans (G:=[]) hk8 (by simp)
    have HI8:=Lib.hid (HINV.out w8 (hk78.block q HGK.out.2.2 (by simp)) (hk78.block g HGK.out.2.1 (by simp)))
    have HK78:=Lib.hid hk78
    have HCV8:=Lib.hid (And.intro hcv8 hcvn)
    have HS8:=Lib.hid (show q < w8.heap.size∧g < w8.heap.size from ⟨Nat.lt_of_lt_of_le HGK.out.2.2 hk78.size,Nat.lt_of_lt_of_le HGK.out.2.1 hk78.size⟩)
    have hpg8:PgTwo w8 q (.slice ka' (KN+1) kc') (.slice la KN lc) (entL S.C.kept++[x]) (entL S.C.kept) vs:=HPG7.out.stays (fun k hk=>hk78.block k (HPG7.out.lt k hk) (by simp))
    have HOWN8:=Lib.hid (show w8.ownsRow 0 36 1 (.slice la KN lc) KN vs from by have h:=hpg8.loads;rw [← HK.out] at h;exact h)
    have HPG8:=Lib.hid hpg8
    obtain ⟨ln,hln⟩:∃ ln,ln=x.2.length:=⟨_,rfl⟩
    rw [← hln]
    have HLN:=Lib.hid hln
    clear hcv8 hcvn hk8 hk78 hpg8 HCP7 c1 p2 hln hxl
    refine hK.out _ _ ?_ (fun hHeld=>?_)
    ·exact HI8.out
    clear hK K
    try simp only [zA,zB,zC,zD,zE,zF,zG,zH]
    clear hHeld
    refine rl_act (i:=8) (by kernel_rfl) rfl (fun K hK=>?_)
    (refine st_buildSlice rfl 30 1 #[(0,.tmp 113)] #[(0,.slice ca ln cc)] rfl (by simp [Act.eval]) ?_;refine ⟨_,_,run_buildSlice_s1 _ _ _ _,?_⟩;try simp only [zA,zB,zC,zD,zE,zF,zG,zH])
    refine hK.out _ _ ?_ (fun hHeld=>?_)
    ·exact ⟨(cell_of_heap (heap_old_at HS8.out.1) 1).trans HI8.out.1,(cell_of_heap (heap_old_at HS8.out.2) _).trans HI8.out.2⟩
    clear hK K
    try simp only [zA,zB,zC,zD,zE,zF,zG,zH]
    clear hHeld
    refine rl_act (i:=9) (by kernel_rfl) rfl (fun K hK=>?_)
    refine step_appC 30 36 (.slice none 0 0) 24 Tryz.underlying30 info_bytes' rfl (by omega) rfl (.tmp 107) (.tmp 114) rfl 0 (.slice la KN lc) KN vs rfl HOWN8.out (.slice ca ln cc) rfl rfl rfl (by have:=HK2'.out;have:=HKL.out;omega) (Nat.zero_le _) ?_
    intro lv' w9 hown9 hk9 hf9
    obtain ⟨la',lc',rfl⟩:=own_form hown9
    have hb9:∀ k,k < w8.heap.size→(Value.slice la KN lc).ownBlock≠some k→w9.heap[k]?=w8.heap[k]?:=fun k h1 h2=>hk9.block k h1 (by simpa using h2)
    have f9:w9.frozen? ⟨q,1,none⟩=false:=frozen_of_row w9 q 1 _ _ ((hb9 q HS8.out.1 HGK.out.1.2.1).trans HPG8.out.root)
    have hi9:w9.cell? ⟨q,1,none⟩=some (.slice la KN lc)∧w9.cell? ⟨g,o+i * 2+1,none⟩=some (.slice lxa ll lxc):=⟨(cell_of_heap (hb9 q HS8.out.1 HGK.out.1.2.1) 1).trans HI8.out.1,(cell_of_heap (hb9 g HS8.out.2 HGK.out.1.1) _).trans HI8.out.2⟩
    have c9:=hi9.1
    have HI9:=Lib.hid hi9
    have HOWN9:=Lib.hid hown9
    have HK9:=Lib.hid hk9
    have HF9:=Lib.hid hf9
    clear hown9 hk9 hf9 hb9 hi9
    refine hK.out _ _ ?_ (fun hHeld=>?_)
    ·exact HI9.out
    clear hK K
    try simp only [zA,zB,zC,zD,zE,zF,zG,zH]
    refine rk 10 ?_
    clear hHeld
    refine rl_last (by kernel_rfl) (by kernel_rfl) rfl (fun K hK=>?_)
    go_simp
    refine hK.out _ _ ?_
    clear hK K
    try simp only [zA,zB,zC,zD,zE,zF,zG,zH]
    obtain ⟨w10,hw10⟩:∃ y,y=w9.setCell ⟨q,1,none⟩ (.slice la' (KN+1) lc'):=⟨_,rfl⟩
    rw [← hw10]
    have r:=HPG7.out.addLoad (wc:=w8) (w1:=w9) (lv':=.slice la' (KN+1) lc') (v:=.slice ca ln cc) (x:=x) HK78.out (by have h:=HCV8.out.1;rw [← HLN.out] at h;exact h) (fun k hk=>HCV8.out.2 k (by rw [← HLN.out];exact hk)) (by have h:=HOWN9.out;have e:=HK.out;rw [← e];exact h) HK9.out HF9.out
    rw [← hw10] at r
    obtain ⟨vs',hvs⟩:∃ vs',vs'=vs++[Value.slice ca ln cc]:=⟨_,rfl⟩
    rw [← hvs] at r
    have hat10:=HAT7.out.upd 0 rfl r.2.1 (t':=pagesThing q (.slice ka' (KN+1) kc') (.slice la' (KN+1) lc') (entL S.C.kept++[x]) vs') r.1.one r.2.2
    simp only [List.set_cons_zero] at hat10
    rw [← HENT.out] at hat10
    have HAT10:=Lib.hid hat10
    clear hvs hw10 r hat10 HOWN9 HK9 HF9 HI9 HI8 HOWN8 HPG8 HPG7 HAT7 HINV HGK HCV8 HK78 c9 f9 f1
    go_wp2_with fail
    go_roundw
    case rel=>exact ⟨i+1,S',G',_,_,_,by omega,by go_num,by
     have e:=congrArg List.length HENT.out
     simp [entL] at e
     have:=HKL.out
     omega,HSOK4.out,HAT10.out⟩
    case measure=>simp [intOf];omega
   ·have hcase:=(HCASE.out.resolve_left (fun h=>hok h.1)).2
    subst hcase
    have hthree:xk < 1∨(¬ xk < 1∧3 < xk)∨(¬ xk < 1∧¬ 3 < xk∧246 < (ll:Int)):=by
     rw [HXK.out,HLL.out]
     by_cases a1:x.1 < 1
     ·exact .inl a1
     ·by_cases a2:3 < x.1
      ·exact .inr (.inl ⟨a1,a2⟩)
      ·exact .inr (.inr ⟨a1,a2,by
        by_cases a3:246 < (x.2.length:Int)
        ·exact a3
        ·exact absurd ⟨by omega,by omega,by omega⟩ hok⟩)
    clear HCASE hok
    rcases hthree with q1 | ⟨q1,q2⟩ | ⟨q1,q2,q3⟩
    all_goals
     go_wp2_with fail
     go_roundw
     case rel=>exact ⟨i+1,S',G',kv,lv,vs,by omega,by go_num,by have:=HKL.out;omega,HSOK4.out,HAT4.out⟩
     case measure=>simp [intOf];omega
  ·obtain rfl:i=N:=by omega
   have i2:¬ (i:Int) < (i:Int):=by omega
   go_upto_region 16 with fail
   clear i0 i2 hi
   have hon:StoreOn wr st b S d0 F G1:=HAT.out.live.get (i:=1) rfl
   have hsup:Calls Tryz.prog 9 #[.pointer (some ⟨st,0,none⟩)] wr fun e w'=>e=.returned (supV fv.sup)∧Keeps [] wr w':=by
    obtain ⟨_,⟨bf,c,bm,sv,hs,rfl⟩,_⟩:=hon
    have:=sSuper_any hs
    rw [HSOK.out.f] at this
    exact this
   unfold supV at hsup
   have HSUP:=Lib.hid hsup
   clear hon hsup
   go_upto_region 17 with (first | (go_at_call 9;refine HSUP.out.mono ?_;rintro e w11 ⟨rfl,hk11⟩))
   obtain ⟨q15,hq15⟩:∃ y,y=w11.heap.size:=⟨_,rfl⟩
   obtain ⟨w12,hw12⟩:∃ y,y=w11.alloc (.cells #[.int .i64 fv.sup.width,.int .i64 fv.sup.gen,.int .i64 fv.sup.mark,.int .i64 fv.sup.head,.int .i64 fv.sup.pages] 42 (0,0)):=⟨_,rfl⟩
   rw [← hw12,← hq15]
   have hat12:=(HAT.out.keep hk11).var #[.int .i64 fv.sup.width,.int .i64 fv.sup.gen,.int .i64 fv.sup.mark,.int .i64 fv.sup.head,.int .i64 fv.sup.pages] 42 hq15
   rw [← hw12] at hat12
   have HAT12:=Lib.hid hat12
   obtain ⟨kn,hkn⟩:∃ kn:Int,kn=(S.C.kept.length:Int):=⟨_,rfl⟩
   have hstg:Calls Tryz.prog 10 #[.pointer (some ⟨st,0,none⟩)] w12 fun e w'=>e=.returned (.int .i64 kn)∧w12=w':=by
    have hon:StoreOn w12 st b S d0 F G1:=HAT12.out.live.get (i:=2) rfl
    obtain ⟨_,⟨bf,c,bm,sv,hs,rfl⟩,_⟩:=hon
    have:=sStaged_any hs
    rw [← hkn] at this
    exact this
   have HSTG:=Lib.hid hstg
   have hcnt:Calls Tryz.prog 11 #[.pointer (some ⟨b,0,none⟩)] w12 fun e w'=>e=.returned (.agg #[.int .i64 d0.reads,.int .i64 d0.writes,.int .i64 d0.syncs,.int .i64 d0.q.length])∧Keeps [] w12 w':=counts_d (show StoreOn w12 st b S d0 F G1 from HAT12.out.live.get (i:=2) rfl).disk
   obtain ⟨ql,hql⟩:∃ ql:Int,ql=(d0.q.length:Int):=⟨_,rfl⟩
   rw [← hql] at hcnt
   have HCNT:=Lib.hid hcnt
   have HKN:=Lib.hid hkn
   have hlb:b < w12.heap.size:=by
    obtain ⟨bp,qv,bm,hI,_⟩:=(show StoreOn w12 st b S d0 F G1 from HAT12.out.live.get (i:=2) rfl).disk
    exact lt_of_heap hI.root
   clear hq15 hw12 hat12 hkn hstg hcnt hql hk11 HSUP HAT
   go_upto_region 18 with (first | (go_at_call 10;refine HSTG.out.mono ?_;rintro e w13 ⟨rfl,rfl⟩))
   go_upto_region 19 with (first | (go_at_call 11;refine HCNT.out.mono ?_;rintro e w13 ⟨rfl,hk13⟩))
   obtain ⟨q17,hq17⟩:∃ y,y=w13.heap.size:=⟨_,rfl⟩
   obtain ⟨w14,hw14⟩:∃ y,y=w13.alloc (.cells #[.int .i64 d0.reads,.int .i64 d0.writes,.int .i64 d0.syncs,.int .i64 ql] 45 (0,0)):=⟨_,rfl⟩
   rw [← hw14,← hq17]
   have hat14:=(HAT12.out.keep hk13).var #[.int .i64 d0.reads,.int .i64 d0.writes,.int .i64 d0.syncs,.int .i64 ql] 45 hq17
   rw [← hw14] at hat14
   have HAT14:=Lib.hid hat14
   clear hq17 hw14 hat14 hk13 HAT12 HSTG HCNT hlb
   obtain ⟨o17,ho17⟩:∃ y,y=objThing q17 #[.int .i64 d0.reads,.int .i64 d0.writes,.int .i64 d0.syncs,.int .i64 ql] 45:=⟨_,rfl⟩
   obtain ⟨o15,ho15⟩:∃ y,y=objThing q15 #[.int .i64 fv.sup.width,.int .i64 fv.sup.gen,.int .i64 fv.sup.mark,.int .i64 fv.sup.head,.int .i64 fv.sup.pages] 42:=⟨_,rfl⟩
   rw [← ho17,← ho15] at HAT14
   have HO17:=Lib.hid ho17
   have HO15:=Lib.hid ho15
   have HS:=Lib.hid (show S.C.kept.length≤4000 by have:=HKL.out;omega)
   clear ho17 ho15
   go_wp2_with fail
   go_loopw [18] (fun iv wx=>∃ (j:Nat) (S2:St) (G2:List Nat),j≤M∧iv=.int .i64 j∧S2.C.kept=S.C.kept∧Sok fv S2∧At w wx [o17,o15,pagesThing q kv lv (entL S.C.kept) vs,storeThing st b S2 d0 F G2]) (fun iv _=>M - (intOf iv).toNat)
   case atStart=>exact ⟨0,S,G1,Nat.zero_le _,rfl,rfl,HSOK.out,HAT14.out⟩
   case round =>
    rename World=>w20
    obtain ⟨j,S2,G2,hj,rfl,hk2,hsok2,hat⟩:=hrel
    have j0:(0:Int)≤(j:Int):=by omega
    have HAT20:=Lib.hid hat
    have HSOK2:=Lib.hid hsok2
    have HK2S:=Lib.hid hk2
    clear hat hsok2 hk2 HAT14 HSOK
    by_cases hlt2:j < M
    ·have j1:(j:Int) < (M:Int):=by omega
     obtain ⟨x,hx⟩:∃ x,A[j]?=some x:=⟨_,List.getElem?_eq_getElem (by rw [← HM.out];exact hlt2)⟩
     obtain ⟨g,o,rfl,hg,hrg,hxl⟩:=HA.out j x hx
     obtain ⟨p,er,hPA,hOA⟩:=both (kept:=S.C.kept) HWR.out.1 HWR.out.2.1 hxl x.1 (HK2S.out ▸ HSOK2.out.kept) (Nat.le_trans HS.out (by omega))
     obtain ⟨key,hkey⟩:∃ key,key=x.2:=⟨_,rfl⟩
     obtain ⟨rt,hrt⟩:∃ rt,rt=x.1:=⟨_,rfl⟩
     rw [← hkey] at hrg hxl hPA hOA
     rw [← hrt] at hrg hPA hOA
     have hcell:∀ wx,Below w.heap.size w wx→wx.cell? ⟨g,o+j * 33,none⟩=some (.int .i64 rt)∧wx.rangeAt g (o+j * 33+1) (key.map B):=fun wx hb=>by
      have hr:=rangeAt_of_heap hrg (hb.block g hg)
      refine ⟨by simpa using hr 0 _ rfl,fun i u hi=>?_⟩
      have:=hr (i+1) u (by simpa using hi)
      rw [show o+j * 33+1+i=o+j * 33+(i+1) by omega]
      exact this
     have hgl:2 ∉ G2∧0 ∉ G2:=by
      have hge:=HAT20.out.ge 3 (t:=storeThing st b S2 d0 F G2) rfl
      have hlt:=HT.out.lt
      exact ⟨fun e=>by have:=hge _ (List.mem_append.2 (.inr e));omega,fun e=>by have:=hge _ (List.mem_append.2 (.inr e));omega⟩
     have hprv:=fun (wx:World) (hon:StoreOn wx st b S2 d0 F G2) (hb:Below w.heap.size w wx)=>hPA hon HK2S.out (by rw [HSOK2.out.f];exact HFV.out.1) (by rw [HSOK2.out.f];exact HFV.out.2.1) (by rw [HSOK2.out.f];exact HLV.out) (HT.out.below hb) hgl
     have hovr:=fun (wx:World) (hpg:PagesIn wx kv lv (entL S.C.kept) (fun k=>k∈pgF q kv lv vs)) (hb:Below w.heap.size w wx)=>hOA hpg (HTR.out.below hb)
     obtain ⟨Z,⟨hZ,hZi,hZ1⟩,hZb⟩:∃ Z:List Value,(Z.length=35∧(Tryz.prog.info? 57).map (fun i=>(i.zero,i.size,i.bytes))=some (some (.agg Z.toArray),35,88)∧(∀ v∈Z,v.oneCell'=true))∧Z=pfZC:=⟨_,pfZC_spec,rfl⟩
     have HZI:=Lib.hid hZi
     have HZ:=Lib.hid hZ
     have HCELL:=Lib.hid hcell
     have HPRV:=Lib.hid hprv
     have HOVR:=Lib.hid hovr
     have HSK:=Lib.hid (size_key_of hxl)
     obtain ⟨p1,p2⟩:=hcell w20 HAT20.out.below
     clear hx hrg hxl hPA hOA hkey hrt hcell hgl hprv hovr hZ hZi hZ1 hZb hg
     go_upto_region 22 with fail
     go_cut [19,20] from 131 to 145 (fun s19 s20 wx=>∃ (q19:Nat) (C:List Value) (S3:St),s19=.pointer (some ⟨q19,0,none⟩)∧s20=.int .i64 er∧S3.C.kept=S.C.kept∧Sok fv S3∧PfIn wx (.agg C.toArray) p∧At w wx [objThing q19 C.toArray 57,o17,o15,pagesThing q kv lv (entL S.C.kept) vs,storeThing st b S3 d0 F G2])
     case first =>
      refine wp_region_held_drew (S:=(fun wx=>wx.cell? ⟨g,o+j * 33,none⟩=some (.int .i64 rt)∧wx.rangeAt g (o+j * 33+1) (key.map B))) (by kernel_rfl) ?_ (fun hHeld=>?_)
      ·exact ⟨p1,p2⟩
      refine tk 0 ?_
      refine tk 1 ?_
      refine tk 2 ?_
      refine tk 3 ?_
      refine tk 4 ?_
      refine tk 5 ?_
      refine tk 6 ?_
      refine tk 7 ?_
      refine tk 8 ?_
      refine tk 9 ?_
      refine tkb 10 rfl (yieldsIf_load_mid (by rfl) 60 (.tmp 141) rfl g (o+j * 33+1) rfl (key.map B) _ (fun _ h=>h.2) Tryz.underlying60 rfl HSK.out) ?_
      clear hHeld p1 p2
      refine wpAnyH_ready (rs:=[11,15]) (by kernel_rfl) (by simp) ?_
      refine AllReadyH.cons rfl (fun K hK=>?_) (AllReadyH.cons rfl (fun K hK=>?_) AllReadyH.nil)
      ·go_simp
       refine (HPRV.out _ (show StoreOn w20.drew st b S2 d0 F G2 from (HAT20.out.keep (Keeps.refl _ _).drew).live.get (i:=3) rfl) (HAT20.out.keep (Keeps.refl _ _).drew).below).mono ?_
       rintro r w21 ⟨⟨v,rfl,hnew⟩,⟨hx,hon3⟩,hk21⟩
       obtain ⟨C,rfl,hCl,hC1⟩:=hnew.form
       have hat21:=(HAT20.out.keep (Keeps.refl _ _).drew).upd 3 rfl (hk21.mono (fun k hk=>.inl (List.mem_append.2 (.inr hk)))) (t':=storeThing st b (S2.hit hx) d0 F G2) hon3 (From.refl _ _)
       simp only [List.set_cons_succ,List.set_cons_zero] at hat21
       have HAT21:=Lib.hid hat21
       have HPF:=Lib.hid hnew.pf
       have HC:=Lib.hid (And.intro hCl hC1)
       clear hnew hCl hC1 hat21 hk21 hon3
       refine hK.out _ _ ?_ (fun hHeld=>?_)
       ·exact HCELL.out w21 HAT21.out.below
       clear hK K
       try simp only [zA,zB,zC,zD,zE,zF,zG,zH]
       refine tk 12 ?_
       refine tk 13 ?_
       refine tk 14 ?_
       clear hHeld
       refine ac 15 fun K hK=>?_
       (refine st_alloc rfl 57 rfl ?_;refine ⟨_,_,run_alloc _ HZI.out,?_⟩;(try simp only [Value.cells]))
       obtain ⟨q19,hq19⟩:∃ y,y=w21.heap.size:=⟨_,rfl⟩
       obtain ⟨w22,hw22⟩:∃ y,y=w21.alloc (.cells Z.toArray 57 (0,0)):=⟨_,rfl⟩
       rw [← hw22,← hq19]
       have hb22:w22.heap[q19]?=some (.cells Z.toArray 57 (0,0)):=by rw [hw22];exact heap_new_at hq19
       have hk22:Keeps [] w21 w22:=by rw [hw22];exact (Keeps.refl _ _).alloc _
       obtain ⟨wz,hwz⟩:∃ y,y=w22.setCells q19 0 C:=⟨_,rfl⟩
       have hbz:wz.heap[q19]?=some (.cells C.toArray 57 (0,0)):=by rw [hwz];exact store_all hb22 (by rw [HZ.out,HC.out.1])
       have hkz:Keeps [] w21 wz:=by rw [hwz];exact hk22.setCells (.inr (Nat.le_of_eq hq19.symm)) _ _
       have HATZ:=Lib.hid (HAT21.out.add (t:=objThing q19 C.toArray 57) hkz hbz (fun k hk=>.inr (by simp [objThing] at hk;omega)))
       have HPZ:=Lib.hid (HPF.out.keeps hkz)
       have HST:=Lib.hid (show (Instr.storeAt 57 (.pointer (some ⟨q19,0,none⟩)) (.agg C.toArray)).run Tryz.prog w22=.ok () wz from hwz ▸ run_store_pf hb22 HZ.out HC.out.1 HC.out.2)
       have HC22:=Lib.hid (HCELL.out w22 (HAT21.out.keep hk22).below)
       clear hq19 hw22 hb22 hk22 hwz hbz hkz HPF HAT21
       refine hK.out _ _ ?_ (fun hHeld=>?_)
       ·exact HC22.out
       clear hK K
       try simp only [zA,zB,zC,zD,zE,zF,zG,zH]
       clear hHeld
       refine ac 16 fun K hK=>?_
       (refine st_store rfl 57 (.tmp 19) (.tmp 144) rfl ?_;refine ⟨_,HST.out,?_⟩;try simp only [zA,zB,zC,zD,zE,zF,zG,zH])
       refine hK.out _ _ ?_ (fun hHeld=>?_)
       ·exact HCELL.out wz HATZ.out.below
       clear hK K
       try simp only [zA,zB,zC,zD,zE,zF,zG,zH]
       refine tk 17 ?_
       refine wpAnyH_done (by kernel_rfl) ?_ _
       clear hHeld
       go_wp2_with fail
       go_meet
       case rel=>exact ⟨q19,C,S2.hit hx,rfl,rfl,HK2S.out,HSOK2.out.hit _,HPZ.out,HATZ.out⟩
      ·(refine st_alloc rfl 57 rfl ?_;refine ⟨_,_,run_alloc _ HZI.out,?_⟩;(try simp only [Value.cells]))
       obtain ⟨q19,hq19⟩:∃ y,y=w20.drew.heap.size:=⟨_,rfl⟩
       obtain ⟨w21,hw21⟩:∃ y,y=w20.drew.alloc (.cells Z.toArray 57 (0,0)):=⟨_,rfl⟩
       rw [← hw21,← hq19]
       have hat21:=(HAT20.out.keep (Keeps.refl _ _).drew).var Z.toArray 57 hq19
       rw [← hw21] at hat21
       have HAT21:=Lib.hid hat21
       clear hq19 hw21 hat21
       refine hK.out _ _ ?_ (fun hHeld=>?_)
       ·exact HCELL.out w21 HAT21.out.below
       clear hK K
       try simp only [zA,zB,zC,zD,zE,zF,zG,zH]
       clear hHeld
       refine ac 11 fun K hK=>?_
       go_simp
       refine (HPRV.out w21 (HAT21.out.live.get (i:=4) rfl) HAT21.out.below).mono ?_
       rintro r w22 ⟨⟨v,rfl,hnew⟩,⟨hx,hon3⟩,hk22⟩
       obtain ⟨C,rfl,hCl,hC1⟩:=hnew.form
       have hat22:=HAT21.out.upd 4 rfl (hk22.mono (fun k hk=>.inl (List.mem_append.2 (.inr hk)))) (t':=storeThing st b (S2.hit hx) d0 F G2) hon3 (From.refl _ _)
       simp only [List.set_cons_succ,List.set_cons_zero] at hat22
       have h19:w21.heap[q19]?=some (.cells Z.toArray 57 (0,0)):=HAT21.out.live.get (i:=0) rfl
       have hb22:w22.heap[q19]?=some (.cells Z.toArray 57 (0,0)):=hat22.live.get (i:=0) rfl
       obtain ⟨wz,hwz⟩:∃ y,y=w22.setCells q19 0 C:=⟨_,rfl⟩
       have hbz:wz.heap[q19]?=some (.cells C.toArray 57 (0,0)):=by rw [hwz];exact store_all hb22 (by rw [HZ.out,hCl])
       have hkz:Keeps [q19] w22 wz:=by rw [hwz];exact (Keeps.refl _ _).setCells (.inl (by simp)) _ _
       have hatz:=hat22.upd 0 rfl hkz (t':=objThing q19 C.toArray 57) hbz (From.refl _ _)
       simp only [List.set_cons_zero] at hatz
       have HATZ:=Lib.hid hatz
       have HPZ:=Lib.hid (hnew.store (lt_of_heap h19) hb22 (fun k h1 h2=>hkz.block k h2 (by simpa using h1)) hkz.size).pf
       have HST:=Lib.hid (show (Instr.storeAt 57 (.pointer (some ⟨q19,0,none⟩)) (.agg C.toArray)).run Tryz.prog w22=.ok () wz from hwz ▸ run_store_pf hb22 HZ.out hCl hC1)
       have HC22:=Lib.hid (HCELL.out w22 hat22.below)
       clear hnew hCl hC1 hat22 hk22 hon3 h19 hb22 hwz hbz hkz hatz HAT21
       refine hK.out _ _ ?_ (fun hHeld=>?_)
       ·exact HC22.out
       clear hK K
       try simp only [zA,zB,zC,zD,zE,zF,zG,zH]
       refine tk 12 ?_
       refine tk 13 ?_
       refine tk 14 ?_
       clear hHeld
       refine ac 16 fun K hK=>?_
       (refine st_store rfl 57 (.tmp 19) (.tmp 144) rfl ?_;refine ⟨_,HST.out,?_⟩;try simp only [zA,zB,zC,zD,zE,zF,zG,zH])
       refine hK.out _ _ ?_ (fun hHeld=>?_)
       ·exact HCELL.out wz HATZ.out.below
       clear hK K
       try simp only [zA,zB,zC,zD,zE,zF,zG,zH]
       refine tk 17 ?_
       refine wpAnyH_done (by kernel_rfl) ?_ _
       clear hHeld
       go_wp2_with fail
       go_meet
       case rel=>exact ⟨q19,C,S2.hit hx,rfl,rfl,HK2S.out,HSOK2.out.hit _,HPZ.out,HATZ.out⟩
     case rest =>
      obtain ⟨q19,C,S3,rfl,rfl,hk3,hsok3,hpf3,hat3⟩:=hcut
      rename World=>w23
      have HAT23:=Lib.hid hat3
      have HPA:=Lib.hid hpf3
      have HSOK3:=Lib.hid hsok3
      have HK3S:=Lib.hid hk3
      have HCP:=Lib.hid (fun (wx:World) (hp:PgOwn wx q kv lv (entL S.C.kept) vs) (hb:Below w.heap.size w wx)=>(show wx.cell? ⟨g,o+j * 33,none⟩=some (.int .i64 rt)∧wx.rangeAt g (o+j * 33+1) (key.map B)∧wx.rangeAt q 0 [kv,lv] from ⟨(HCELL.out wx hb).1,(HCELL.out wx hb).2,rangeAt_all hp.root⟩))
      have HRS:=Lib.hid (size_rpages2 kv lv)
      clear hat3 hpf3 hsok3 hk3 HAT20 HSOK2 HK2S HPRV p1 p2
      obtain ⟨p1,p2,p3⟩:=HCP.out w23 (HAT23.out.live.get (i:=3) rfl) HAT23.out.below
      go_upto_region 23 with fail
      go_cut [21,22] from 146 to 161 (fun s21 s22 wx=>∃ (q21:Nat) (C2:List Value),s21=.pointer (some ⟨q21,0,none⟩)∧s22=.int .i64 er∧PfIn wx (.agg C2.toArray) p∧PfIn wx (.agg C.toArray) p∧At w wx [objThing q21 C2.toArray 57,objThing q19 C.toArray 57,o17,o15,pagesThing q kv lv (entL S.C.kept) vs,storeThing st b S3 d0 F G2])
      case first =>
       refine wp_region_held_drew (S:=(fun wx=>wx.cell? ⟨g,o+j * 33,none⟩=some (.int .i64 rt)∧wx.rangeAt g (o+j * 33+1) (key.map B)∧wx.rangeAt q 0 [kv,lv])) (by kernel_rfl) ?_ (fun hHeld=>?_)
       ·exact ⟨p1,p2,p3⟩
       refine tk 0 ?_
       refine tkb 1 rfl (yieldsIf_load_mid (by rfl) 32 (.tmp 11) rfl q 0 rfl [kv,lv] _ (fun _ h=>h.2.2) Tryz.underlying32 rfl HRS.out) ?_
       refine tk 2 ?_
       refine tk 3 ?_
       refine tk 4 ?_
       refine tk 5 ?_
       refine tk 6 ?_
       refine tk 7 ?_
       refine tk 8 ?_
       refine tk 9 ?_
       refine tk 10 ?_
       refine tkb 11 rfl (yieldsIf_load_mid (by rfl) 60 (.tmp 157) rfl g (o+j * 33+1) rfl (key.map B) _ (fun _ h=>h.2.1) Tryz.underlying60 rfl HSK.out) ?_
       clear hHeld p1 p2 p3
       refine wpAnyH_ready (rs:=[12,16]) (by kernel_rfl) (by simp) ?_
       refine AllReadyH.cons rfl (fun K hK=>?_) (AllReadyH.cons rfl (fun K hK=>?_) AllReadyH.nil)
       ·go_simp
        have hat23:=HAT23.out.keep (Keeps.refl _ _).drew
        refine (HOVR.out w23.drew (show PgOwn w23.drew q kv lv (entL S.C.kept) vs from hat23.live.get (i:=3) rfl).pages hat23.below).mono ?_
        rintro r w24 ⟨⟨v,rfl,hnew⟩,hk24⟩
        obtain ⟨C2,rfl,hCl,hC1⟩:=hnew.form
        have HAT24:=Lib.hid (hat23.keep hk24)
        have HPB:=Lib.hid hnew.pf
        have HPA4:=Lib.hid (HPA.out.keeps (((Keeps.refl [] w23).drew).trans (G:=[]) hk24 (by simp)))
        have HC:=Lib.hid (And.intro hCl hC1)
        clear hnew hCl hC1 hat23 hk24
        refine hK.out _ _ ?_ (fun hHeld=>?_)
        ·exact HCP.out w24 (HAT24.out.live.get (i:=3) rfl) HAT24.out.below
        clear hK K
        try simp only [zA,zB,zC,zD,zE,zF,zG,zH]
        refine tk 13 ?_
        refine tk 14 ?_
        refine tk 15 ?_
        clear hHeld
        refine ac 16 fun K hK=>?_
        (refine st_alloc rfl 57 rfl ?_;refine ⟨_,_,run_alloc _ HZI.out,?_⟩;(try simp only [Value.cells]))
        obtain ⟨q21,hq21⟩:∃ y,y=w24.heap.size:=⟨_,rfl⟩
        obtain ⟨w25,hw25⟩:∃ y,y=w24.alloc (.cells Z.toArray 57 (0,0)):=⟨_,rfl⟩
        rw [← hw25,← hq21]
        have hb25:w25.heap[q21]?=some (.cells Z.toArray 57 (0,0)):=by rw [hw25];exact heap_new_at hq21
        have hk25:Keeps [] w24 w25:=by rw [hw25];exact (Keeps.refl _ _).alloc _
        obtain ⟨wz,hwz⟩:∃ y,y=w25.setCells q21 0 C2:=⟨_,rfl⟩
        have hbz:wz.heap[q21]?=some (.cells C2.toArray 57 (0,0)):=by rw [hwz];exact store_all hb25 (by rw [HZ.out,HC.out.1])
        have hkz:Keeps [] w24 wz:=by rw [hwz];exact hk25.setCells (.inr (Nat.le_of_eq hq21.symm)) _ _
        have HATZ:=Lib.hid (HAT24.out.add (t:=objThing q21 C2.toArray 57) hkz hbz (fun k hk=>.inr (by simp [objThing] at hk;omega)))
        have HPZ:=Lib.hid (HPB.out.keeps hkz)
        have HPAZ:=Lib.hid (HPA4.out.keeps hkz)
        have HST:=Lib.hid (show (Instr.storeAt 57 (.pointer (some ⟨q21,0,none⟩)) (.agg C2.toArray)).run Tryz.prog w25=.ok () wz from hwz ▸ run_store_pf hb25 HZ.out HC.out.1 HC.out.2)
        have hat25:=HAT24.out.keep hk25
        have HC25:=Lib.hid (HCP.out w25 (hat25.live.get (i:=3) rfl) hat25.below)
        clear hq21 hw25 hb25 hk25 hwz hbz hkz hat25 HPB HPA4 HAT24
        refine hK.out _ _ ?_ (fun hHeld=>?_)
        ·exact HC25.out
        clear hK K
        try simp only [zA,zB,zC,zD,zE,zF,zG,zH]
        clear hHeld
        refine ac 17 fun K hK=>?_
        (refine st_store rfl 57 (.tmp 21) (.tmp 160) rfl ?_;refine ⟨_,HST.out,?_⟩;try simp only [zA,zB,zC,zD,zE,zF,zG,zH])
        refine hK.out _ _ ?_ (fun hHeld=>?_)
        ·exact HCP.out wz (HATZ.out.live.get (i:=4) rfl) HATZ.out.below
        clear hK K
        try simp only [zA,zB,zC,zD,zE,zF,zG,zH]
        refine tk 18 ?_
        refine wpAnyH_done (by kernel_rfl) ?_ _
        clear hHeld
        go_wp2_with fail
        go_meet
        case rel=>exact ⟨q21,C2,rfl,rfl,HPZ.out,HPAZ.out,HATZ.out⟩
       ·(refine st_alloc rfl 57 rfl ?_;refine ⟨_,_,run_alloc _ HZI.out,?_⟩;(try simp only [Value.cells]))
        obtain ⟨q21,hq21⟩:∃ y,y=w23.drew.heap.size:=⟨_,rfl⟩
        obtain ⟨w24,hw24⟩:∃ y,y=w23.drew.alloc (.cells Z.toArray 57 (0,0)):=⟨_,rfl⟩
        rw [← hw24,← hq21]
        have hat24:=(HAT23.out.keep (Keeps.refl _ _).drew).var Z.toArray 57 hq21
        rw [← hw24] at hat24
        have hk24:Keeps [] w23 w24:=by rw [hw24];exact ((Keeps.refl [] w23).drew).alloc _
        have HAT24:=Lib.hid hat24
        have HK24:=Lib.hid hk24
        have HQ21:=Lib.hid (show w23.heap.size≤q21 by rw [hq21];exact ((Keeps.refl [] w23).drew).size)
        clear hq21 hw24 hat24 hk24
        refine hK.out _ _ ?_ (fun hHeld=>?_)
        ·exact HCP.out w24 (HAT24.out.live.get (i:=4) rfl) HAT24.out.below
        clear hK K
        try simp only [zA,zB,zC,zD,zE,zF,zG,zH]
        clear hHeld
        refine ac 12 fun K hK=>?_
        go_simp
        refine (HOVR.out w24 (show PgOwn w24 q kv lv (entL S.C.kept) vs from HAT24.out.live.get (i:=4) rfl).pages HAT24.out.below).mono ?_
        rintro r w25 ⟨⟨v,rfl,hnew⟩,hk25⟩
        obtain ⟨C2,rfl,hCl,hC1⟩:=hnew.form
        have hat25:=HAT24.out.keep hk25
        have h21:w24.heap[q21]?=some (.cells Z.toArray 57 (0,0)):=HAT24.out.live.get (i:=0) rfl
        have hb25:w25.heap[q21]?=some (.cells Z.toArray 57 (0,0)):=hat25.live.get (i:=0) rfl
        obtain ⟨wz,hwz⟩:∃ y,y=w25.setCells q21 0 C2:=⟨_,rfl⟩
        have hbz:wz.heap[q21]?=some (.cells C2.toArray 57 (0,0)):=by rw [hwz];exact store_all hb25 (by rw [HZ.out,hCl])
        have hkz:Keeps [q21] w25 wz:=by rw [hwz];exact (Keeps.refl _ _).setCells (.inl (by simp)) _ _
        have hkw:Keeps [] w23 wz:=by rw [hwz];exact (HK24.out.trans (G:=[]) hk25 (by simp)).setCells (.inr HQ21.out) _ _
        have hatz:=hat25.upd 0 rfl hkz (t':=objThing q21 C2.toArray 57) hbz (From.refl _ _)
        simp only [List.set_cons_zero] at hatz
        have HATZ:=Lib.hid hatz
        have HPZ:=Lib.hid (hnew.store (lt_of_heap h21) hb25 (fun k h1 h2=>hkz.block k h2 (by simpa using h1)) hkz.size).pf
        have HPAZ:=Lib.hid (HPA.out.keeps hkw)
        have HST:=Lib.hid (show (Instr.storeAt 57 (.pointer (some ⟨q21,0,none⟩)) (.agg C2.toArray)).run Tryz.prog w25=.ok () wz from hwz ▸ run_store_pf hb25 HZ.out hCl hC1)
        have HC25:=Lib.hid (HCP.out w25 (hat25.live.get (i:=4) rfl) hat25.below)
        clear hnew hCl hC1 hat25 hk25 h21 hb25 hwz hbz hkz hkw hatz HAT24 HK24 HQ21
        refine hK.out _ _ ?_ (fun hHeld=>?_)
        ·exact HC25.out
        clear hK K
        try simp only [zA,zB,zC,zD,zE,zF,zG,zH]
        refine tk 13 ?_
        refine tk 14 ?_
        refine tk 15 ?_
        clear hHeld
        refine ac 17 fun K hK=>?_
        (refine st_store rfl 57 (.tmp 21) (.tmp 160) rfl ?_;refine ⟨_,HST.out,?_⟩;try simp only [zA,zB,zC,zD,zE,zF,zG,zH])
        refine hK.out _ _ ?_ (fun hHeld=>?_)
        ·exact HCP.out wz (HATZ.out.live.get (i:=4) rfl) HATZ.out.below
        clear hK K
        try simp only [zA,zB,zC,zD,zE,zF,zG,zH]
        refine tk 18 ?_
        refine wpAnyH_done (by kernel_rfl) ?_ _
        clear hHeld
        go_wp2_with fail
        go_meet
        case rel=>exact ⟨q21,C2,rfl,rfl,HPZ.out,HPAZ.out,HATZ.out⟩
      case rest =>
       obtain ⟨q21,C2,rfl,rfl,hpb,hpa,hat6⟩:=hcut
       rename World=>w26
       obtain ⟨KN,hK⟩:∃ KN,KN=(entL S.C.kept).length:=⟨_,rfl⟩
       have hK2:KN=S.C.kept.length:=by rw [hK];simp [entL]
       have hpg:PgOwn w26 q kv lv (entL S.C.kept) vs:=hat6.live.get (i:=4) rfl
       obtain ⟨ka,kc,hkv⟩:=own_form hpg.kinds
       obtain ⟨la,lc,hlv⟩:=own_form hpg.loads
       rw [← hK] at hkv hlv
       obtain ⟨m,hm⟩:∃ m:Int,m=2+(S.C.kept.length:Int):=⟨_,rfl⟩
       have hqn:=fun (wx:World)=>(show Calls Tryz.prog 8 #[.agg #[kv,lv]] wx fun e w'=>e=.returned (.int .i64 m)∧Keeps [] wx w' by
        have h:=qNext_any (w:=wx) (a:=ka) (a2:=la) (n:=KN) (c:=kc) (n2:=KN) (c2:=lc) (by have:=HS.out;omega)
        rw [show ((2+KN:Nat):Int)=m by omega,← hkv,← hlv] at h
        exact h)
       have hsn:=fun (wx:World) (hon:StoreOn wx st b S3 d0 F G2)=>(show Calls Tryz.prog 15 #[.pointer (some ⟨st,0,none⟩)] wx fun e w'=>e=.returned (.int .i64 m)∧Keeps [] wx w' by
        obtain ⟨_,⟨bf,c,bm,sv,hs,rfl⟩,_⟩:=hon
        have h:=sNext_any hs
        rw [HSOK3.out.f,HFV.out.1,HK3S.out,← hm] at h
        exact h)
       have HQN:=Lib.hid hqn
       have HSN:=Lib.hid hsn
       have hb19:∀ wx,At w wx [objThing q21 C2.toArray 57,objThing q19 C.toArray 57,o17,o15,pagesThing q kv lv (entL S.C.kept) vs,storeThing st b S3 d0 F G2]→wx.rangeAt q19 0 C∧wx.rangeAt q21 0 C2∧wx.rangeAt q 0 [kv,lv]:=fun wx h=>⟨rangeAt_all (show wx.heap[q19]?=some (.cells C.toArray 57 (0,0)) from h.live.get (i:=1) rfl),rangeAt_all (show wx.heap[q21]?=some (.cells C2.toArray 57 (0,0)) from h.live.get (i:=0) rfl),rangeAt_all (show PgOwn wx q kv lv (entL S.C.kept) vs from h.live.get (i:=4) rfl).root⟩
       have HB19:=Lib.hid hb19
       have HAT26:=Lib.hid hat6
       have hsz:∀ (cs:List Value) (wx:World),PfIn wx (.agg cs.toArray) p→(Tryz.prog.info? 57).map (·.size)=some cs.length:=fun cs wx h=>by
        obtain ⟨vv,sv,e,_,_,ho⟩:=h
        injection e with e
        have e2:cs=pfCells p vv sv:=by simpa using congrArg Array.toList e
        rw [e2,pf_length ho.1]
        exact size_proof
       have HSA:=Lib.hid (hsz C w26 hpa)
       have HSB:=Lib.hid (hsz C2 w26 hpb)
       have HSAME:=Lib.hid (sameProof_true (hpa.keeps (Keeps.refl [] w26).drew) (hpb.keeps (Keeps.refl [] w26).drew))
       obtain ⟨p1,p2,p3⟩:=hb19 w26 hat6
       have e0:(er != er)=false:=by simp
       have e1:(m != m)=false:=by simp
       clear hK hK2 hpg hkv hlv hm hqn hsn hb19 hat6 hpa hpb hsz HAT23 HPA HCP HOVR HCELL HZ HZI
       go_upto_region 24 with fail
       refine wp_region_held_drew (S:=(fun wx=>wx.rangeAt q19 0 C∧wx.rangeAt q21 0 C2∧wx.rangeAt q 0 [kv,lv])) (by kernel_rfl) ?_ (fun hHeld=>?_)
       ·exact ⟨p1,p2,p3⟩
       refine tk 0 ?_
       refine tk 1 ?_
       refine tk 2 ?_
       refine tk 3 ?_
       refine tkb 4 rfl (yieldsIf_load_mid (by rfl) 57 (.tmp 19) rfl q19 0 rfl C _ (fun _ h=>h.1) Tryz.underlying57 rfl HSA.out) ?_
       refine tkb 5 rfl (yieldsIf_load_mid (by rfl) 57 (.tmp 21) rfl q21 0 rfl C2 _ (fun _ h=>h.2.1) Tryz.underlying57 rfl HSB.out) ?_
       clear hHeld p1 p2 p3
       refine ac 6 fun K hK=>?_
       go_simp
       refine HSAME.out.mono ?_
       rintro e w27 ⟨rfl,hk27⟩
       have HAT27:=Lib.hid ((HAT26.out.keep (Keeps.refl _ _).drew).keep hk27)
       clear hk27 HAT26 HSAME
       refine hK.out _ _ ?_ (fun hHeld=>?_)
       ·exact HB19.out w27 HAT27.out
       clear hK K
       try simp only [zA,zB,zC,zD,zE,zF,zG,zH]
       refine tk 7 ?_
       refine tk 8 ?_
       refine tk 9 ?_
       refine tk 10 ?_
       refine tkb 12 rfl (yieldsIf_load_mid (by rfl) 32 (.tmp 11) rfl q 0 rfl [kv,lv] _ (fun _ h=>h.2.2) Tryz.underlying32 rfl HRS.out) ?_
       clear hHeld
       refine ac 11 fun K hK=>?_
       go_simp
       refine (HSN.out w27 (HAT27.out.live.get (i:=5) rfl)).mono ?_
       rintro e w28 ⟨rfl,hk28⟩
       have HAT28:=Lib.hid (HAT27.out.keep hk28)
       clear hk28 HAT27
       refine hK.out _ _ ?_ (fun hHeld=>?_)
       ·exact HB19.out w28 HAT28.out
       clear hK K
       try simp only [zA,zB,zC,zD,zE,zF,zG,zH]
       clear hHeld
       refine ac 13 fun K hK=>?_
       go_simp
       refine (HQN.out w28).mono ?_
       rintro e w29 ⟨rfl,hk29⟩
       have HAT29:=Lib.hid (HAT28.out.keep hk29)
       clear hk29 HAT28
       refine hK.out _ _ ?_ (fun hHeld=>?_)
       ·exact HB19.out w29 HAT29.out
       clear hK K
       try simp only [zA,zB,zC,zD,zE,zF,zG,zH]
       refine tk 14 ?_
       refine tk 15 ?_
       refine wpAnyH_done (by kernel_rfl) ?_ _
       clear hHeld
       go_wp2_with fail
       go_roundw
       case rel=>exact ⟨j+1,S3,G2,by omega,by go_num,HK3S.out,HSOK3.out,HAT29.out.tl.tl⟩
       case measure=>simp [intOf];omega
    ·obtain rfl:j=M:=by omega
     have j2:¬ (j:Int) < (j:Int):=by omega
     have hr15:w20.heap[q15]?=some (.cells #[.int .i64 fv.sup.width,.int .i64 fv.sup.gen,.int .i64 fv.sup.mark,.int .i64 fv.sup.head,.int .i64 fv.sup.pages] 42 (0,0)):=by
      have:=HAT20.out.live.get (i:=1) rfl
      rw [HO15.out] at this
      exact this
     have hr17:w20.heap[q17]?=some (.cells #[.int .i64 d0.reads,.int .i64 d0.writes,.int .i64 d0.syncs,.int .i64 ql] 45 (0,0)):=by
      have:=HAT20.out.live.get (i:=0) rfl
      rw [HO17.out] at this
      exact this
     have HR15:=Lib.hid (rangeAt_all hr15)
     have HR17:=Lib.hid (rangeAt_all hr17)
     have hon:StoreOn w20 st b S2 d0 F G2:=HAT20.out.live.get (i:=3) rfl
     have CQ:=quiet_ok (r0:=d0.reads) (o0:=ql) hon
     rw [HK2S.out,HSOK2.out.f,← HKN.out] at CQ
     unfold supV at CQ
     have HCQ:=Lib.hid CQ
     have sz15:(Tryz.prog.info? 42).map (·.size)=some 5:=size_super
     have sz17:(Tryz.prog.info? 45).map (·.size)=some 4:=by kernel_rfl
     clear hr15 hr17 hon CQ j0 j2 hj
     go_wp2_with (first | (refine wpList_load_mid rfl 42 (.tmp 15) rfl q15 0 (by rfl) _ _ HR15.out Tryz.underlying42 rfl sz15 ?_;try simp only [zA,zB,zC,zD,zE,zF,zG,zH]) | (refine wpList_load_mid rfl 45 (.tmp 17) rfl q17 0 (by rfl) _ _ HR17.out Tryz.underlying45 rfl sz17 ?_;try simp only [zA,zB,zC,zD,zE,zF,zG,zH]) | (go_at_call 16;refine HCQ.out.mono ?_;rintro e w30 ⟨rfl,hk30⟩))
     go_ret
     exact ⟨rfl,(HAT20.out.keep hk30).below⟩
open Go.RowKit
set_option maxRecDepth 100000 in
set_option maxHeartbeats 400000 in
theorem forged_unfit {w:World} {width room:Int} {a a2:Option Addr} {n c n2 c2:Nat} (hn:¬ (1≤width∧width≤32∧1≤room∧room≤4096)) :
  Calls Tryz.prog 3 #[.int .i64 width,.int .i64 room,.slice a n c,.slice a2 n2 c2] w fun e w'=>e=.returned (.bool true)∧Below w.heap.size w w':=by
 have hf:=fun (wx:World)=>cFits_any (w:=wx) width room
 rw [decide_eq_false hn] at hf
 have HF:=Lib.hid hf
 clear hf hn
 go_enter Tryz.func3,Tryz.ntmps3
 go_wp2_with (first | (go_at_call 4;refine (HF.out _).mono ?_;rintro e w1 ⟨rfl,rfl⟩))
 go_ret
 exact ⟨rfl,Below.refl _ _⟩
set_option maxRecDepth 100000 in
set_option maxHeartbeats 400000 in
theorem forged_long {w:World} {width room:Int} {a a2:Option Addr} {n c n2 c2:Nat} (hn:4000 < n) (h1:1≤width∧width≤32∧1≤room∧room≤4096) :
  Calls Tryz.prog 3 #[.int .i64 width,.int .i64 room,.slice a n c,.slice a2 n2 c2] w fun e w'=>e=.returned (.bool true)∧Below w.heap.size w w':=by
 have hf:=fun (wx:World)=>cFits_any (w:=wx) width room
 rw [decide_eq_true h1] at hf
 have HF:=Lib.hid hf
 have hn':4000 < (n:Int):=by omega
 clear hf hn
 go_enter Tryz.func3,Tryz.ntmps3
 go_wp2_with (first | (go_at_call 4;refine (HF.out _).mono ?_;rintro e w1 ⟨rfl,rfl⟩))
 go_ret
 exact ⟨rfl,Below.refl _ _⟩
end Go.Proofs.YtakaocenbempmaaGreatDoor
