/-
  Lemmas of a claim, bundle R: XCaA XCaB XCaC XCaE.
-/
import Derived.Great.Walk
import Derived.Deep.CutBlock
import Derived.Deep.DeepCutAuto
import Derived.Test.YtakaocenbempmaaGreatDoorPfM
import Derived.Test.YtakaocenbempmaaGreatDoorPfB
set_option linter.unusedVariables false
set_option linter.unusedSimpArgs false
namespace Go.Proofs.YtakaocenbempmaaGreatDoor
open Go.RowKit
theorem row_start {w:World} {c o:Nat} {u4 u5:Value} (h4:w.cell? ⟨c,o+4,none⟩=some u4) (h5:w.cell? ⟨c,o+5,none⟩=some u5) (f4:w.frozen? ⟨c,o+4,none⟩=false) (f5:w.frozen? ⟨c,o+5,none⟩=false) :
  Calls Tryz.prog 96 #[.pointer (some ⟨c,o,none⟩)] w fun e w'=>e=.returned (.tuple #[])∧w'=((w.setCell ⟨c,o+5,none⟩ (.pointer (some ⟨c,o,none⟩))).setCell ⟨c,o+4,none⟩ (.pointer (some ⟨c,o,none⟩))).drew:=by
 have h4':(w.setCell ⟨c,o+5,none⟩ (.pointer (some ⟨c,o,none⟩))).cell? ⟨c,o+4,none⟩=some u4:=(cell_set_off _ (by omega)).trans h4
 go_enter Tryz.func96,Tryz.ntmps96
 refine wp_region_held_drew (S:=(fun w'=>True)) (by kernel_rfl) ?_ (fun hHeld=>?_)
 ·trivial
 refine tk 0 ?_
 refine tk 1 ?_
 refine tk 2 ?_
 refine tk 3 ?_
 refine tk 4 ?_
 refine tk 5 ?_
 refine tk 6 ?_
 refine tk 7 ?_
 refine tk 8 ?_
 refine tk 9 ?_
 refine tk 10 ?_
 refine ac 11 fun K hK=>?_
 go_simp
 refine hK.out _ _ ?_ (fun hHeld=>?_)
 ·trivial
 clear hK K
 try simp only [zA,zB,zC,zD,zE,zF,zG,zH]
 refine tk 12 ?_
 refine tk 13 ?_
 refine tk 14 ?_
 refine ac 15 fun K hK=>?_
 go_simp
 refine hK.out _ _ ?_ (fun hHeld=>?_)
 ·trivial
 clear hK K
 try simp only [zA,zB,zC,zD,zE,zF,zG,zH]
 refine wpAnyH_done (by kernel_rfl) ?_ _
 exact Go.Great.bodyPost_end0 rfl rfl ⟨rfl,rfl⟩
def lastW (w:World) (c o eb pb po:Nat) (sz:Int):World :=
 ((((w.setCell ⟨eb,4,none⟩ (.pointer (some ⟨pb,po,none⟩))).setCell ⟨eb,5,none⟩ (.pointer (some ⟨c,o,none⟩))).setCell ⟨pb,po+5,none⟩ (.pointer (some ⟨eb,0,none⟩))).setCell ⟨c,o+4,none⟩ (.pointer (some ⟨eb,0,none⟩))).setCell ⟨c,o+6,none⟩ (.int .i64 (sz+1))
set_option maxRecDepth 100000 in
set_option maxHeartbeats 800000 in
theorem row_last {w:World} {c o eb pb po:Nat} {sz:Int} {u4 u5 u6:Value} (h4:w.cell? ⟨eb,4,none⟩=some u4) (h5:w.cell? ⟨eb,5,none⟩=some u5) (hp:w.cell? ⟨c,o+4,none⟩=some (.pointer (some ⟨pb,po,none⟩))) (hn:w.cell? ⟨pb,po+5,none⟩=some u6)
  (hs:w.cell? ⟨c,o+6,none⟩=some (.int .i64 sz)) (fe:∀ j,w.frozen? ⟨eb,j,none⟩=false) (fc:∀ j,w.frozen? ⟨c,j,none⟩=false) (fp:∀ j,w.frozen? ⟨pb,j,none⟩=false) (n1:eb≠c) (n2:eb≠pb) (n3:pb=c→po=o) (hsz:0≤sz) (hsz2:sz < 1000000) :
  Calls Tryz.prog 48 #[.pointer (some ⟨c,o,none⟩),.pointer (some ⟨eb,0,none⟩)] w fun e w'=>e=.returned (.tuple #[])∧w'=(lastW w c o eb pb po sz).drew.drew:=by
 obtain ⟨w1,hw1⟩:∃ w1,w1=((w.setCell ⟨eb,4,none⟩ (.pointer (some ⟨pb,po,none⟩))).setCell ⟨eb,5,none⟩ (.pointer (some ⟨c,o,none⟩))):=⟨_,rfl⟩
 have far1:∀ (b j:Nat),b≠eb→w1.cell? ⟨b,j,none⟩=w.cell? ⟨b,j,none⟩:=fun b j h=>by rw [hw1,cell_set_far _ h,cell_set_far _ h]
 have g4:w1.cell? ⟨eb,4,none⟩=some (.pointer (some ⟨pb,po,none⟩)):=by rw [hw1,cell_set_off _ (by omega)];exact World.cell?_setCell_same w _ _ h4
 have g5:w1.cell? ⟨eb,5,none⟩=some (.pointer (some ⟨c,o,none⟩)):=by
  rw [hw1]
  exact World.cell?_setCell_same _ _ _ (by rw [cell_set_off _ (by omega)];exact h5)
 have gp:=(far1 c (o+4) n1.symm).trans hp
 have gn:=(far1 pb (po+5) n2.symm).trans hn
 have gs:=(far1 c (o+6) n1.symm).trans hs
 have fz1:∀ a:Addr,w1.frozen? a=w.frozen? a:=fun a=>by rw [hw1];simp
 obtain ⟨w2,hw2⟩:∃ w2,w2=(w1.setCell ⟨pb,po+5,none⟩ (.pointer (some ⟨eb,0,none⟩))).setCell ⟨c,o+4,none⟩ (.pointer (some ⟨eb,0,none⟩)):=⟨_,rfl⟩
 have ks:w2.cell? ⟨c,o+6,none⟩=some (.int .i64 sz):=by
  rw [hw2,cell_set_off _ (by omega),World.cell?_setCell_other w1 _ _ _ (fun e=>by
   simp only [Addr.mk.injEq,and_true] at e
   have:=n3 e.1
   omega)]
  exact gs
 have fz2:∀ a:Addr,w2.frozen? a=w.frozen? a:=fun a=>by rw [hw2,← fz1 a];simp
 have fk:=(fz2 ⟨c,o+6,none⟩).trans (fc _)
 have f1:=fe 4
 have f2:=fe 5
 have f3:=(fz1 ⟨pb,po+5,none⟩).trans (fp _)
 have f4:=(fz1 ⟨c,o+4,none⟩).trans (fc _)
 have e1:IntKind.i64.wrap (sz+1)=sz+1:=IntWalk.i64_in _ (by omega)
 have HW1:=Lib.hid hw1
 have HW2:=Lib.hid hw2
 have s1:(w.setCell ⟨eb,4,none⟩ (.pointer (some ⟨pb,po,none⟩))).cell? ⟨eb,5,none⟩=some u5:=(cell_set_off _ (by omega)).trans h5
 have s2:(w.setCell ⟨eb,4,none⟩ (.pointer (some ⟨pb,po,none⟩))).cell? ⟨c,o+4,none⟩=some (.pointer (some ⟨pb,po,none⟩)):=(cell_set_far _ n1.symm).trans hp
 have S2:=Lib.hid (show w1.cell? ⟨c,o+4,none⟩=some (.pointer (some ⟨pb,po,none⟩)) from gp)
 have hE:(lastW w c o eb pb po sz).drew.drew=(w2.setCell ⟨c,o+6,none⟩ (.int .i64 (sz+1))).drew.drew:=by rw [hw2,hw1];rfl
 have HE:=Lib.hid hE
 have hx4:(w1.setCell ⟨pb,po+5,none⟩ (.pointer (some ⟨eb,0,none⟩))).cell? ⟨eb,4,none⟩=some (.pointer (some ⟨pb,po,none⟩)):=(cell_set_far _ n2).trans g4
 have hx5:(w1.setCell ⟨pb,po+5,none⟩ (.pointer (some ⟨eb,0,none⟩))).cell? ⟨eb,5,none⟩=some (.pointer (some ⟨c,o,none⟩)):=(cell_set_far _ n2).trans g5
 have hxp:(w1.setCell ⟨pb,po+5,none⟩ (.pointer (some ⟨eb,0,none⟩))).cell? ⟨c,o+4,none⟩=some (.pointer (some ⟨pb,po,none⟩)):=by
  rw [World.cell?_setCell_other w1 _ _ _ (fun e=>by
   simp only [Addr.mk.injEq,and_true] at e
   have:=n3 e.1
   omega)]
  exact gp
 have hy4:w2.cell? ⟨eb,4,none⟩=some (.pointer (some ⟨pb,po,none⟩)):=by rw [hw2,cell_set_far _ n1];exact hx4
 have hy5:w2.cell? ⟨eb,5,none⟩=some (.pointer (some ⟨c,o,none⟩)):=by rw [hw2,cell_set_far _ n1];exact hx5
 clear far1 fz1 fz2 hw1 hw2 hE fe fc fp n3
 rw [HE.out]
 go_enter Tryz.func48,Tryz.ntmps48
 go_upto_region 0 with fail
 refine wp_region_held_drew (S:=(fun w'=>w'.cell? ⟨c,o+4,none⟩=some (.pointer (some ⟨pb,po,none⟩)))) (by kernel_rfl) ?_ (fun hHeld=>?_)
 ·exact hp
 refine tk 0 ?_
 refine tk 1 ?_
 refine tk 2 ?_
 refine tk 3 ?_
 refine tk 4 ?_
 refine tk 5 ?_
 refine tk 6 ?_
 refine tk 7 ?_
 refine tk 8 ?_
 refine tk 9 ?_
 refine tk 10 ?_
 refine tk 11 ?_
 refine ac 12 fun K hK=>?_
 go_simp
 refine hK.out _ _ ?_ (fun hHeld=>?_)
 ·exact s2
 clear hK K
 try simp only [zA,zB,zC,zD,zE,zF,zG,zH]
 refine tk 13 ?_
 refine tk 14 ?_
 refine ac 15 fun K hK=>?_
 go_simp
 rw [← HW1.out]
 refine hK.out _ _ ?_ (fun hHeld=>?_)
 ·exact gp
 clear hK K
 try simp only [zA,zB,zC,zD,zE,zF,zG,zH]
 refine wpAnyH_done (by kernel_rfl) ?_ _
 clear hHeld h4 h5 hp hn hs f1 f2 s1 s2 S2
 go_upto_region 1 with fail
 refine wp_region_held_drew (S:=(fun w'=>w'.cell? ⟨eb,4,none⟩=some (.pointer (some ⟨pb,po,none⟩))∧w'.cell? ⟨eb,5,none⟩=some (.pointer (some ⟨c,o,none⟩)))) (by kernel_rfl) ?_ (fun hHeld=>?_)
 ·exact ⟨g4,g5⟩
 refine tk 0 ?_
 refine tk 1 ?_
 refine tk 2 ?_
 refine tk 3 ?_
 refine tk 4 ?_
 refine tk 5 ?_
 refine tk 6 ?_
 refine tk 7 ?_
 refine tk 8 ?_
 refine tk 9 ?_
 refine tk 10 ?_
 refine tk 11 ?_
 refine ac 12 fun K hK=>?_
 go_simp
 refine hK.out _ _ ?_ (fun hHeld=>?_)
 ·exact ⟨hx4,hx5⟩
 clear hK K
 try simp only [zA,zB,zC,zD,zE,zF,zG,zH]
 refine tk 13 ?_
 refine tk 14 ?_
 refine ac 15 fun K hK=>?_
 go_simp
 rw [← HW2.out]
 refine hK.out _ _ ?_ (fun hHeld=>?_)
 ·exact ⟨hy4,hy5⟩
 clear hK K
 try simp only [zA,zB,zC,zD,zE,zF,zG,zH]
 refine wpAnyH_done (by kernel_rfl) ?_ _
 clear hHeld hx4 hx5 hxp hy4 hy5 g4 g5 gp gn gs
 go_wp2_with fail
 exact Go.Great.bodyPost_end0 rfl rfl ⟨rfl,rfl⟩
open Go.RowKit
structure Ent where
 blk:Nat
 key:Int
 kind:Int
 lv:Value
 load:List UInt8
def Ent.nd (e:Ent):Nd:=⟨e.blk,0⟩
def EntAt (w:World) (e:Ent) (held:Bool):Prop:=∃ p n:Value,w.heap[e.blk]?=some (.cells #[.int .i64 e.key,.int .i64 e.kind,e.lv,.bool held,p,n] 121 (0,0))
def RootAt (w:World) (c:Nat) (room:Int) (bm:Nat) (nc nk h m g:Int):Prop:=∃ p1 n1 p2 n2:Value,
 w.heap[c]?=some (.cells #[.int .i64 room,.map (some bm),.int .i64 0,.int .i64 0,.slice none 0 0,.bool false,p1,n1,.int .i64 nc,.int .i64 0,.int .i64 0,.slice none 0 0,.bool false,p2,n2,.int .i64 nk,.int .i64 h,.int .i64 m,.int .i64 g] 125 (0,0))
structure Ca where
 room:Int
 clean:List Ent
 kept:List Ent
 hits:Int
 misses:Int
 gone:Int
def Ca.all (C:Ca):List Ent:=C.clean++C.kept
def Ca.find (C:Ca) (k:Int):Option Nat:=(C.all.find? (fun e=>e.key == k)).map Ent.blk
structure CacheIn (w:World) (c bm:Nat) (C:Ca):Prop where
 root:RootAt w c C.room bm C.clean.length C.kept.length C.hits C.misses C.gone
 clean:∀ e∈C.clean,EntAt w e false
 kept:∀ e∈C.kept,EntAt w e true
 cring:Ring w ⟨c,2⟩ (C.clean.map Ent.nd)
 kring:Ring w ⟨c,9⟩ (C.kept.map Ent.nd)
 map:PMap Tryz.prog w 3 bm C.all.length C.find
 loads:∀ e∈C.all,OwnB w e.lv e.load
 keys:(C.all.map Ent.key).Nodup
 wf:∀ e∈C.all,(Lit.int .i64 e.key).wf=true
def caF (c bm:Nat) (C:Ca):List Nat:=c :: bm :: (C.all.map Ent.blk++C.all.flatMap fun e=>e.lv.ownBlock.toList)
theorem mem_caF {c bm:Nat} {C:Ca} {k:Nat}:k∈caF c bm C↔k=c∨k=bm∨(∃ e∈C.all,e.blk=k)∨∃ e∈C.all,e.lv.ownBlock=some k:=by
 simp [caF]
theorem cell_of_heap {w w':World} {b:Nat} (h:w'.heap[b]?=w.heap[b]?) (j:Nat):w'.cell? ⟨b,j,none⟩=w.cell? ⟨b,j,none⟩:=World.cell?_of_block (w:=w) (w':=w') (a:=⟨b,j,none⟩) h
theorem CacheIn.keep {w w':World} {c bm:Nat} {C:Ca} (h:CacheIn w c bm C) (hb:∀ k∈caF c bm C,w'.heap[k]?=w.heap[k]?):CacheIn w' c bm C:=by
 have hc:=hb c (by simp [caF])
 have he:∀ e∈C.all,w'.heap[e.blk]?=w.heap[e.blk]?:=fun e he=>hb _ (mem_caF.2 (.inr (.inr (.inl ⟨e,he,rfl⟩))))
 refine ⟨?_,?_,?_,?_,?_,h.map.keep (hb bm (by simp [caF])),?_,h.keys,h.wf⟩
 ·obtain ⟨p1,n1,p2,n2,hr⟩:=h.root
  exact ⟨p1,n1,p2,n2,hc.trans hr⟩
 ·intro e hm
  obtain ⟨p,n,hr⟩:=h.clean e hm
  exact ⟨p,n,(he e (List.mem_append_left _ hm)).trans hr⟩
 ·intro e hm
  obtain ⟨p,n,hr⟩:=h.kept e hm
  exact ⟨p,n,(he e (List.mem_append_right _ hm)).trans hr⟩
 ·refine h.cring.congr (fun y hy=>?_)
  rcases List.mem_cons.1 hy with rfl | hy
  ·exact ⟨cell_of_heap hc _,cell_of_heap hc _⟩
  ·obtain ⟨e,hm,rfl⟩:=List.mem_map.1 hy
   exact ⟨cell_of_heap (he e (List.mem_append_left _ hm)) _,cell_of_heap (he e (List.mem_append_left _ hm)) _⟩
 ·refine h.kring.congr (fun y hy=>?_)
  rcases List.mem_cons.1 hy with rfl | hy
  ·exact ⟨cell_of_heap hc _,cell_of_heap hc _⟩
  ·obtain ⟨e,hm,rfl⟩:=List.mem_map.1 hy
   exact ⟨cell_of_heap (he e (List.mem_append_right _ hm)) _,cell_of_heap (he e (List.mem_append_right _ hm)) _⟩
 ·intro e hm
  exact ownsRow_keep (h.loads e hm) (fun k hk=>hb k (mem_caF.2 (.inr (.inr (.inr ⟨e,hm,hk⟩)))))
theorem CacheIn.ent {w:World} {c bm:Nat} {C:Ca} (h:CacheIn w c bm C) {e:Ent} (he:e∈C.all):∃ held p n,w.heap[e.blk]?=some (.cells #[.int .i64 e.key,.int .i64 e.kind,e.lv,.bool held,p,n] 121 (0,0)):=by
 rcases List.mem_append.1 he with hm | hm
 ·obtain ⟨p,n,hr⟩:=h.clean e hm
  exact ⟨false,p,n,hr⟩
 ·obtain ⟨p,n,hr⟩:=h.kept e hm
  exact ⟨true,p,n,hr⟩
theorem CacheIn.lt {w:World} {c bm:Nat} {C:Ca} (h:CacheIn w c bm C):∀ k∈caF c bm C,k < w.heap.size:=by
 intro k hk
 rcases mem_caF.1 hk with rfl | rfl | ⟨e,he,rfl⟩ | ⟨e,he,hv⟩
 ·obtain ⟨_,_,_,_,hr⟩:=h.root
  exact lt_of_heap hr
 ·exact h.map.lt
 ·obtain ⟨_,_,_,hr⟩:=h.ent he
  exact lt_of_heap hr
 ·exact (World.ownsRow.lt (h.loads e he) k hv).2
theorem CacheIn.blk_ne {w:World} {c bm:Nat} {C:Ca} (h:CacheIn w c bm C) {e:Ent} (he:e∈C.all):e.blk≠c∧e.blk≠bm∧c≠bm:=by
 obtain ⟨_,_,_,hr⟩:=h.ent he
 obtain ⟨_,_,_,_,hc⟩:=h.root
 obtain ⟨_,_,hm⟩:=h.map.isMap
 refine ⟨fun e1=>?_,fun e1=>?_,fun e1=>?_⟩
 ·rw [e1] at hr;have:=hr.symm.trans hc;simp at this
 ·rw [e1] at hr;have:=hr.symm.trans hm;simp at this
 ·rw [e1] at hc;have:=hc.symm.trans hm;simp at this
theorem CacheIn.c_ne {w:World} {c bm:Nat} {C:Ca} (h:CacheIn w c bm C):c≠bm:=by
 obtain ⟨_,_,_,_,hc⟩:=h.root
 obtain ⟨_,_,hm⟩:=h.map.isMap
 intro e1
 rw [e1] at hc;have:=hc.symm.trans hm;simp at this
theorem CacheIn.load_ne {w:World} {c bm:Nat} {C:Ca} (h:CacheIn w c bm C) {e:Ent} (he:e∈C.all) {k:Nat} (hk:e.lv.ownBlock=some k):k≠c∧k≠bm∧∀ e'∈C.all,k≠e'.blk:=by
 have ho:=h.loads e he
 rcases ho.2 with ⟨h0,_⟩ | ⟨g,cap,cur,hv,_,hh,_⟩
 ·rw [h0] at hk;simp [Value.ownBlock] at hk
 ·rw [hv] at hk
  simp only [Value.ownBlock,Option.some.injEq] at hk
  subst hk
  obtain ⟨_,_,_,_,hc⟩:=h.root
  obtain ⟨_,_,hm⟩:=h.map.isMap
  refine ⟨fun e1=>?_,fun e1=>?_,fun e' he' e1=>?_⟩
  ·rw [e1] at hh;have:=hh.symm.trans hc;simp at this
  ·rw [e1] at hh;have:=hh.symm.trans hm;simp at this
  ·obtain ⟨_,_,_,hr⟩:=h.ent he'
   rw [e1] at hh;have:=hh.symm.trans hr;simp at this
open Go.RowKit
def sets (w:World) (L:List (Nat × Nat × Value)):World:=L.foldl (fun w x=>w.setCell ⟨x.1,x.2.1,none⟩ x.2.2) w
theorem heap_sets {b:Nat} {t:TypeId}:∀ (L:List (Nat × Nat × Value)) {w:World} {cs:Array Value},w.heap[b]?=some (.cells cs t (0,0))→(sets w L).heap[b]?=some (.cells (L.foldl (fun cs x=>if x.1=b then cs.setIfInBounds x.2.1 x.2.2 else cs) cs) t (0,0))
 | [],_,_,h=>h
 | x :: L,w,cs,h=>by
  show (sets (w.setCell ⟨x.1,x.2.1,none⟩ x.2.2) L).heap[b]?=_
  rw [List.foldl_cons]
  by_cases e:x.1=b
  ·subst e
   rw [if_pos rfl]
   exact heap_sets L (heap_setCell_same w x.1 x.2.1 cs t x.2.2 h)
  ·rw [if_neg e]
   exact heap_sets L ((Below.heap_setCell w ⟨x.1,x.2.1,none⟩ x.2.2 b (fun h=>e h.symm)).trans h)
theorem heap_sets_other {b:Nat}:∀ (L:List (Nat × Nat × Value)) {w:World},(∀ x∈L,x.1≠b)→(sets w L).heap[b]?=w.heap[b]?
 | [],_,_=>rfl
 | x :: L,w,h=>(heap_sets_other L (fun y hy=>h y (List.mem_cons_of_mem _ hy))).trans (Below.heap_setCell w ⟨x.1,x.2.1,none⟩ x.2.2 b (fun e=>h x (by simp) e.symm))
theorem Keeps.sets {F:List Nat} {a:World}:∀ (L:List (Nat × Nat × Value)) {w:World},Keeps F a w→(∀ x∈L,x.1∈F∨a.heap.size≤x.1)→Keeps F a (sets w L)
 | [],_,h,_=>h
 | x :: L,w,h,hL=>Keeps.sets L (h.setCell (hL x (by simp)) _) (fun y hy=>hL y (List.mem_cons_of_mem _ hy))
theorem cell_sets_of {w:World} {b j:Nat} {t:TypeId} {cs:Array Value} (h:w.heap[b]?=some (.cells cs t (0,0))) {v:Value} (hv:cs[j]?=some v):w.cell? ⟨b,j,none⟩=some v:=by
 rw [cell_of_row w b j _ _ _ h];exact hv
theorem lastOf_cases (c o:Nat) (l:List Ent):(l=[]∧lastOf ⟨c,o⟩ (l.map Ent.nd)=⟨c,o⟩)∨∃ l' e,l=l'++[e]∧lastOf ⟨c,o⟩ (l.map Ent.nd)=e.nd:=by
 rcases List.eq_nil_or_concat l with h | ⟨l',e,h⟩
 ·subst h;exact .inl ⟨rfl,rfl⟩
 ·subst h
  refine .inr ⟨l',e,by simp,?_⟩
  rw [List.concat_eq_append,List.map_append]
  exact lastOf_snoc _ _ _
def holdL (c eb pb po:Nat) (sz kind:Int) (lv:Value):List (Nat × Nat × Value) :=
 [(eb,4,.pointer (some ⟨pb,po,none⟩)),(eb,5,.pointer (some ⟨c,9,none⟩)),(pb,po+5,.pointer (some ⟨eb,0,none⟩)),(c,13,.pointer (some ⟨eb,0,none⟩)),(c,15,.int .i64 (sz+1)),(eb,1,.int .i64 kind),(eb,2,lv),(eb,3,.bool true)]
set_option maxHeartbeats 1000000 in
theorem hold_close {w w2:World} {c bm eb pb po:Nat} {C:Ca} {k kind:Int} {lv:Value} {load:List UInt8} (h:CacheIn w c bm C) (hnew:∀ e∈C.all,e.key≠k) (hwf:(Lit.int .i64 k).wf=true) (hlv:OwnB w lv load)
  (h2:∀ b,b < w.heap.size→b≠bm→w2.heap[b]?=w.heap[b]?) (heb:w.heap.size≤eb) (he2:w2.heap[eb]?=some (.cells #[.int .i64 k,.int .i64 0,.slice none 0 0,.bool false,.pointer none,.pointer none] 121 (0,0)))
  (hm2:PMap Tryz.prog w2 3 bm (C.all.length+1) (fun j=>if j=k then some eb else C.find j)) (hp:lastOf ⟨c,9⟩ (C.kept.map Ent.nd)=⟨pb,po⟩) :
  CacheIn (sets w2 (holdL c eb pb po C.kept.length kind lv)) c bm { C with kept:=C.kept++[⟨eb,k,kind,lv,load⟩] }:=by
 obtain ⟨W,hW⟩:∃ W,W=sets w2 (holdL c eb pb po C.kept.length kind lv):=⟨_,rfl⟩
 rw [← hW]
 obtain ⟨p1,n1,p2,n2,hroot⟩:=h.root
 have hclt:=lt_of_heap hroot
 have hcb:=h.c_ne
 have hroot2:=(h2 c hclt hcb).trans hroot
 have ec:eb≠c:=by omega
 have hpb:(pb=c∧po=9∧C.kept=[])∨(pb≠c∧po=0∧∃ l' e,C.kept=l'++[e]∧e.blk=pb):=by
  rcases lastOf_cases c 9 C.kept with ⟨h0,h1⟩ | ⟨l',e,h0,h1⟩
  ·rw [h1] at hp
   simp only [Nd.mk.injEq] at hp
   exact .inl ⟨hp.1.symm,hp.2.symm,h0⟩
  ·rw [h1] at hp
   simp only [Ent.nd,Nd.mk.injEq] at hp
   have he:e∈C.all:=by rw [Ca.all,h0];simp
   exact .inr ⟨by rw [← hp.1];exact (h.blk_ne he).1,hp.2.symm,l',e,h0,hp.1⟩
 have hpl:pb < w.heap.size:=by
  rcases hpb with ⟨e1,_⟩ | ⟨_,_,l',e,h0,e1⟩
  ·omega
  ·obtain ⟨_,_,_,hr⟩:=h.ent (e:=e) (by rw [Ca.all,h0];simp)
   rw [← e1];exact lt_of_heap hr
 have ep:eb≠pb:=by omega
 have hoth:∀ b,b≠eb→b≠pb→b≠c→W.heap[b]?=w2.heap[b]?:=fun b x y z=>by
  rw [hW]
  refine heap_sets_other _ (fun x' hx=>?_)
  simp only [holdL,List.mem_cons,List.not_mem_nil,or_false] at hx
  rcases hx with rfl | rfl | rfl | rfl | rfl | rfl | rfl | rfl <;> first | exact fun e=>x e.symm | exact fun e=>y e.symm | exact fun e=>z e.symm
 have hold:∀ b,b < w.heap.size→b≠bm→b≠pb→b≠c→W.heap[b]?=w.heap[b]?:=fun b x y z u=>(hoth b (by omega) z u).trans (h2 b x y)
 have hE:W.heap[eb]?=some (.cells #[.int .i64 k,.int .i64 kind,lv,.bool true,.pointer (some ⟨pb,po,none⟩),.pointer (some ⟨c,9,none⟩)] 121 (0,0)):=by
  rw [hW]
  have:=heap_sets (holdL c eb pb po C.kept.length kind lv) he2
  simp only [holdL,List.foldl_cons,List.foldl_nil,if_true,if_neg ep.symm,if_neg ec.symm] at this
  exact this
 have hC:∃ n2',W.heap[c]?=some (.cells #[.int .i64 C.room,.map (some bm),.int .i64 0,.int .i64 0,.slice none 0 0,.bool false,p1,n1,.int .i64 C.clean.length,.int .i64 0,.int .i64 0,.slice none 0 0,.bool false,.pointer (some ⟨eb,0,none⟩),n2',.int .i64 (C.kept.length+1),.int .i64 C.hits,.int .i64 C.misses,.int .i64 C.gone] 125 (0,0)):=by
  rw [hW]
  have:=heap_sets (holdL c eb pb po C.kept.length kind lv) hroot2
  rcases hpb with ⟨e1,e2,_⟩ | ⟨e1,_⟩
  ·subst e1 e2
   simp only [holdL,List.foldl_cons,List.foldl_nil,if_true,if_neg ec] at this
   exact ⟨_,this⟩
  ·simp only [holdL,List.foldl_cons,List.foldl_nil,if_true,if_neg ec,if_neg e1] at this
   exact ⟨_,this⟩
 have hP:pb≠c→∀ cs:Array Value,w.heap[pb]?=some (.cells cs 121 (0,0))→W.heap[pb]?=some (.cells (cs.setIfInBounds 5 (.pointer (some ⟨eb,0,none⟩))) 121 (0,0)):=fun e1 cs hcs=>by
  have hpm:pb≠bm:=by
   rcases hpb with ⟨e2,_⟩ | ⟨_,_,l',e,h0,e2⟩
   ·exact absurd e2 e1
   ·rw [← e2];exact (h.blk_ne (e:=e) (by rw [Ca.all,h0];simp)).2.1
  have hpo:po=0:=by
   rcases hpb with ⟨e2,_⟩ | ⟨_,e2,_⟩
   ·exact absurd e2 e1
   ·exact e2
  rw [hW]
  have:=heap_sets (holdL c eb pb po C.kept.length kind lv) ((h2 pb hpl hpm).trans hcs)
  subst hpo
  simp only [holdL,List.foldl_cons,List.foldl_nil,if_true,if_neg ep,if_neg (Ne.symm e1)] at this
  exact this
 have hent:∀ e∈C.all,∀ held p n,w.heap[e.blk]?=some (.cells #[.int .i64 e.key,.int .i64 e.kind,e.lv,.bool held,p,n] 121 (0,0))→∃ n',W.heap[e.blk]?=some (.cells #[.int .i64 e.key,.int .i64 e.kind,e.lv,.bool held,p,n'] 121 (0,0))∧(e.blk≠pb→n'=n):=fun e he held p n hr=>by
  obtain ⟨b1,b2,_⟩:=h.blk_ne he
  by_cases e1:e.blk=pb
  ·have:=hP (by rw [← e1];exact b1) _ (e1 ▸ hr)
   rw [← e1] at this
   exact ⟨_,this,fun hne=>absurd e1 hne⟩
  ·exact ⟨n,(hold _ (lt_of_heap hr) b2 e1 b1).trans hr,fun _=>rfl⟩
 have hall:∀ e∈C.all++[⟨eb,k,kind,lv,load⟩],e∈C.all∨e=⟨eb,k,kind,lv,load⟩:=fun e he=>by simpa using he
 have hloads:∀ (v:Value) (l:List UInt8),OwnB w v l→OwnB W v l:=fun v l ho=>by
  refine ownsRow_keep ho (fun g hg=>?_)
  obtain ⟨_,hlt⟩:=World.ownsRow.lt ho g hg
  rcases ho.2 with ⟨h0,_⟩ | ⟨g',cap,cur,hv,_,hh,_⟩
  ·rw [h0] at hg;simp [Value.ownBlock] at hg
  ·rw [hv] at hg
   simp only [Value.ownBlock,Option.some.injEq] at hg
   subst hg
   obtain ⟨_,_,hm⟩:=h.map.isMap
   refine hold _ hlt (fun e1=>?_) (fun e1=>?_) (fun e1=>?_)
   ·rw [e1] at hh;have:=hh.symm.trans hm;simp at this
   ·rcases hpb with ⟨e2,_⟩ | ⟨_,_,l',e,h0,e2⟩
    ·rw [e1,e2] at hh;have:=hh.symm.trans hroot;simp at this
    ·obtain ⟨_,_,_,hr⟩:=h.ent (e:=e) (by rw [Ca.all,h0];simp)
     rw [e1,← e2] at hh;have:=hh.symm.trans hr;simp at this
   ·rw [e1] at hh;have:=hh.symm.trans hroot;simp at this
 have efind:({ C with kept:=C.kept++[⟨eb,k,kind,lv,load⟩] }:Ca).all=C.all++[⟨eb,k,kind,lv,load⟩]:=by simp [Ca.all]
 refine ⟨?_,?_,?_,?_,?_,?_,?_,?_,?_⟩
 ·obtain ⟨n2',hC⟩:=hC
  refine ⟨p1,n1,.pointer (some ⟨eb,0,none⟩),n2',?_⟩
  rw [List.length_append]
  exact hC
 ·intro e he
  obtain ⟨p,n,hr⟩:=h.clean e he
  obtain ⟨n',hr',_⟩:=hent e (List.mem_append_left _ he) _ _ _ hr
  exact ⟨p,n',hr'⟩
 ·intro e he
  rcases List.mem_append.1 he with he | he
  ·obtain ⟨p,n,hr⟩:=h.kept e he
   obtain ⟨n',hr',_⟩:=hent e (List.mem_append_right _ he) _ _ _ hr
   exact ⟨p,n',hr'⟩
  ·obtain rfl:e=⟨eb,k,kind,lv,load⟩:=by simpa using he
   exact ⟨_,_,hE⟩
 ·refine h.cring.congr (fun y hy=>?_)
  rcases List.mem_cons.1 hy with rfl | hy
  ·obtain ⟨n2',hC⟩:=hC
   exact ⟨(cell_sets_of hC rfl).trans (cell_sets_of hroot rfl).symm,(cell_sets_of hC rfl).trans (cell_sets_of hroot rfl).symm⟩
  ·obtain ⟨e,hm,rfl⟩:=List.mem_map.1 hy
   have he:e∈C.all:=List.mem_append_left _ hm
   obtain ⟨p,n,hr⟩:=h.clean e hm
   have hne:e.blk≠pb:=fun e1=>by
    rcases hpb with ⟨e2,_⟩ | ⟨_,_,l',e',h0,e2⟩
    ·exact (h.blk_ne he).1 (e1.trans e2)
    ·obtain ⟨p',n',hr'⟩:=h.kept e' (by rw [h0];simp)
     rw [e2,← e1] at hr'
     have:=hr.symm.trans hr'
     simp at this
   have hh:=hold _ (lt_of_heap hr) (h.blk_ne he).2.1 hne (h.blk_ne he).1
   exact ⟨cell_of_heap hh _,cell_of_heap hh _⟩
 ·have hlast:∀ e∈C.kept,e.nd≠lastOf ⟨c,9⟩ (C.kept.map Ent.nd)→e.blk≠pb:=fun e hm hne e1=>by
   have he:e∈C.all:=List.mem_append_right _ hm
   rcases hpb with ⟨e2,_⟩ | ⟨_,e3,_⟩
   ·exact (h.blk_ne he).1 (e1.trans e2)
   ·exact hne (by rw [hp,e3,← e1];rfl)
  have hlt:∀ y:Nd,y∈(Nd.mk c 9) :: C.kept.map Ent.nd→y.b≠eb:=fun y hy=>by
   rcases List.mem_cons.1 hy with rfl | hy
   ·exact fun e1=>ec e1.symm
   ·obtain ⟨e,hm,rfl⟩:=List.mem_map.1 hy
    obtain ⟨p,n,hr⟩:=h.kept e hm
    have:=lt_of_heap hr
    show e.blk≠eb
    omega
  have e1:(C.kept++[(⟨eb,k,kind,lv,load⟩:Ent)]).map Ent.nd=C.kept.map Ent.nd++[(⟨eb,0⟩:Nd)]:=by rw [List.map_append];rfl
  rw [e1]
  refine h.kring.last (fun y hy=>.inl (hlt y hy)) ?_ ?_ ?_ ?_ ?_ ?_
  ·rw [hp];exact cell_sets_of hE rfl
  ·exact cell_sets_of hE rfl
  ·rw [hp]
   rcases hpb with ⟨e2,e3,_⟩ | ⟨e2,e3,l',e,h0,e4⟩
   ·rw [hW]
    have:=heap_sets (holdL c eb pb po C.kept.length kind lv) hroot2
    subst e2 e3
    simp only [holdL,List.foldl_cons,List.foldl_nil,if_true,if_neg ec] at this
    exact cell_sets_of this rfl
   ·obtain ⟨p,n,hr⟩:=h.kept e (by rw [h0];simp)
    have:=hP e2 _ (e4 ▸ hr)
    subst e3
    exact cell_sets_of this rfl
  ·obtain ⟨n2',hC⟩:=hC
   exact cell_sets_of hC rfl
  ·intro y hy hne
   rcases List.mem_cons.1 hy with rfl | hy
   ·rcases hpb with ⟨e2,e3,_⟩ | ⟨e2,_⟩
    ·exact absurd (by rw [hp,e2,e3]) hne
    ·rw [hW]
     have:=heap_sets (holdL c eb pb po C.kept.length kind lv) hroot2
     simp only [holdL,List.foldl_cons,List.foldl_nil,if_true,if_neg ec,if_neg e2] at this
     exact (cell_sets_of this rfl).trans (cell_sets_of hroot rfl).symm
   ·obtain ⟨e,hm,rfl⟩:=List.mem_map.1 hy
    have he:e∈C.all:=List.mem_append_right _ hm
    obtain ⟨p,n,hr⟩:=h.kept e hm
    exact cell_of_heap (hold _ (lt_of_heap hr) (h.blk_ne he).2.1 (hlast e hm hne) (h.blk_ne he).1) _
  ·intro y hy
   obtain ⟨e,hm,rfl⟩:=List.mem_map.1 hy
   obtain ⟨p,n,hr⟩:=h.kept e hm
   obtain ⟨n',hr',_⟩:=hent e (List.mem_append_right _ hm) _ _ _ hr
   exact (cell_sets_of hr' rfl).trans (cell_sets_of hr rfl).symm
 ·rw [efind]
  have hbm:W.heap[bm]?=w2.heap[bm]?:=by
   have hlt:=h.map.lt
   refine hoth bm (by omega) (fun e1=>?_) hcb.symm
   rcases hpb with ⟨e2,_⟩ | ⟨_,_,l',e,h0,e2⟩
   ·exact hcb (e2.symm.trans e1.symm)
   ·exact (h.blk_ne (e:=e) (by rw [Ca.all,h0];simp)).2.1 (e2.trans e1.symm)
  rw [List.length_append]
  refine (hm2.keep hbm).congr (fun j hj=>?_)
  unfold Ca.find
  rw [efind,List.find?_append]
  by_cases e1:j=k
  ·subst e1
   have:C.all.find? (fun e=>e.key == j)=none:=List.find?_eq_none.2 (fun e he=>by simpa using hnew e he)
   rw [this]
   simp
  ·rw [if_neg e1]
   cases C.all.find? (fun e=>e.key == j) with
   | some x=>rfl
   | none=>simp [Ne.symm e1]
 ·intro e he
  rw [efind] at he
  rcases hall e he with he | rfl
  ·exact hloads _ _ (h.loads e he)
  ·exact hloads _ _ hlv
 ·rw [efind,List.map_append,List.nodup_append]
  refine ⟨h.keys,by simp,fun a ha b hb=>?_⟩
  obtain ⟨e,he,rfl⟩:=List.mem_map.1 ha
  obtain rfl:b=k:=by simpa using hb
  exact hnew e he
 ·intro e he
  rw [efind] at he
  rcases hall e he with he | rfl
  ·exact h.wf e he
  ·exact hwf
open Go.RowKit
set_option maxRecDepth 100000 in
set_option maxHeartbeats 800000 in
theorem caNew_any {w:World} (room:Nat) (hr:room≤4096) :
  Calls Tryz.prog 76 #[.int .i64 room] w fun e w'=>∃ c bm,e=.returned (.pointer (some ⟨c,0,none⟩))∧CacheIn w' c bm ⟨room,[],[],0,0,0⟩∧w.heap.size≤c∧w.heap.size≤bm∧Keeps [] w w':=by
 have hmm:=@run_makeMap Tryz.prog
 have e1:max (room:Int) 0=(room:Int):=by omega
 have e2:min (room:Int) 4096=(room:Int):=by omega
 obtain ⟨bm,hbm⟩:∃ x,x=w.heap.size:=⟨_,rfl⟩
 obtain ⟨c,hc⟩:∃ x,x=w.heap.size+1:=⟨_,rfl⟩
 obtain ⟨w1,hw1⟩:∃ x,x=(w.alloc (.map #[] 0)).alloc (.cells #[.int .i64 room,.map (some bm),.int .i64 0,.int .i64 0,.slice none 0 0,.bool false,.pointer none,.pointer none,.int .i64 0,.int .i64 0,.int .i64 0,.slice none 0 0,.bool false,.pointer none,.pointer none,.int .i64 0,.int .i64 0,.int .i64 0,.int .i64 0] 125 (0,0)):=⟨_,rfl⟩
 have hb1:w1.heap[c]?=some (.cells #[.int .i64 room,.map (some bm),.int .i64 0,.int .i64 0,.slice none 0 0,.bool false,.pointer none,.pointer none,.int .i64 0,.int .i64 0,.int .i64 0,.slice none 0 0,.bool false,.pointer none,.pointer none,.int .i64 0,.int .i64 0,.int .i64 0,.int .i64 0] 125 (0,0)):=by rw [hw1];exact heap_new_at (by simp;omega)
 have hm1:w1.heap[bm]?=some (.map #[] 0):=by rw [hw1,heap_old_at (by simp;omega)];exact heap_new_at hbm
 have k1:Keeps [] w w1:=by rw [hw1];exact ((Keeps.refl _ _).alloc _).alloc _
 have C1:=Lib.hid (row_start (w:=w1) (c:=c) (o:=2) (u4:=.pointer none) (u5:=.pointer none) (cell_sets_of hb1 rfl) (cell_sets_of hb1 rfl) (frozen_of_row w1 c _ _ _ hb1) (frozen_of_row w1 c _ _ _ hb1))
 obtain ⟨w2,hw2⟩:∃ x,x=((w1.setCell ⟨c,2+5,none⟩ (.pointer (some ⟨c,2,none⟩))).setCell ⟨c,2+4,none⟩ (.pointer (some ⟨c,2,none⟩))):=⟨_,rfl⟩
 rw [← hw2] at C1
 have hb2:=heap_setCell_same _ c 6 _ _ (.pointer (some ⟨c,2,none⟩)) (heap_setCell_same w1 c 7 _ _ (.pointer (some ⟨c,2,none⟩)) hb1)
 rw [show (w1.setCell ⟨c,7,none⟩ (.pointer (some ⟨c,2,none⟩))).setCell ⟨c,6,none⟩ (.pointer (some ⟨c,2,none⟩))=w2 from hw2.symm] at hb2
 have k2:Keeps [c] w1 w2:=by rw [hw2];exact ((Keeps.refl _ _).setCell (.inl (by simp)) _).setCell (.inl (by simp)) _
 have C2:=Lib.hid (row_start (w:=w2.drew) (c:=c) (o:=9) (u4:=.pointer none) (u5:=.pointer none) (cell_sets_of (w:=w2) hb2 rfl) (cell_sets_of (w:=w2) hb2 rfl) (frozen_of_row w2 c _ _ _ hb2) (frozen_of_row w2 c _ _ _ hb2))
 obtain ⟨w3,hw3⟩:∃ x,x=((w2.drew.setCell ⟨c,9+5,none⟩ (.pointer (some ⟨c,9,none⟩))).setCell ⟨c,9+4,none⟩ (.pointer (some ⟨c,9,none⟩))):=⟨_,rfl⟩
 rw [← hw3] at C2
 have hb3:=heap_setCell_same _ c 13 _ _ (.pointer (some ⟨c,9,none⟩)) (heap_setCell_same w2.drew c 14 _ _ (.pointer (some ⟨c,9,none⟩)) hb2)
 rw [show (w2.drew.setCell ⟨c,14,none⟩ (.pointer (some ⟨c,9,none⟩))).setCell ⟨c,13,none⟩ (.pointer (some ⟨c,9,none⟩))=w3 from hw3.symm] at hb3
 have k3:Keeps [c] w2.drew w3:=by rw [hw3];exact ((Keeps.refl _ _).setCell (.inl (by simp)) _).setCell (.inl (by simp)) _
 have hm3:w3.heap[bm]?=some (.map #[] 0):=by
  rw [k3.block bm (by have:=k2.size;have:=lt_of_heap hm1;show bm < w2.heap.size;omega) (by simp;omega)]
  exact (k2.block bm (lt_of_heap hm1) (by simp;omega)).trans hm1
 have hkk:Keeps [] w w3:=(k1.trans (G:=[c]) (k2.drew.trans (G:=[c]) k3 (fun _ h=>.inl h)) (fun j hj=>.inr (by simp at hj;omega)))
 have hfin:CacheIn w3 c bm ⟨room,[],[],0,0,0⟩ :=
  ⟨⟨_,_,_,_,hb3⟩,by simp,by simp,Ring.start (cell_sets_of hb3 rfl) (cell_sets_of hb3 rfl),Ring.start (cell_sets_of hb3 rfl) (cell_sets_of hb3 rfl),(PMap_empty 0 rfl hm3).congr (fun _ _=>rfl),by simp [Ca.all],by simp [Ca.all],by simp [Ca.all]⟩
 have HF:=Lib.hid hfin
 have HK:=Lib.hid hkk
 have HW:=Lib.hid hw1
 have HC:=Lib.hid hc
 have HB:=Lib.hid hbm
 clear hw1 hc hbm hb1 hm1 k1 hw2 hb2 k2 hw3 hb3 k3 hm3 hkk hfin
 go_enter Tryz.func76,Tryz.ntmps76
 go_upto_region 2 with fail
 rw [← HC.out,← HB.out,← HW.out]
 go_wp2_with fail
 refine C1.out.mono ?_
 rintro e w' ⟨rfl,hw'⟩
 obtain rfl:=hw'
 go_wp2_with fail
 refine C2.out.mono ?_
 rintro e w' ⟨rfl,hw'⟩
 obtain rfl:=hw'
 go_wp2_with fail
 go_ret
 exact ⟨c,bm,rfl,HF.out.keep (fun _ _=>rfl),by have:=HC.out;omega,by have:=HB.out;omega,HK.out.drew⟩
end Go.Proofs.YtakaocenbempmaaGreatDoor
