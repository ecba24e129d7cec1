/-
  Lemmas of a claim, bundle S: XCaD.
-/
import Derived.Test.YtakaocenbempmaaGreatDoorPfR
import Derived.Test.YtakaocenbempmaaGreatDoorPfG
set_option linter.unusedVariables false
set_option linter.unusedSimpArgs false
namespace Go.Proofs.YtakaocenbempmaaGreatDoor
open Go.RowKit
theorem owns_slice {w:World} {base:Nat} {e:TypeId} {size:Nat} {v:Value} {n:Nat} {xs:List Value} (h:w.ownsRow base e size v n xs):∃ a c,v=.slice a n c:=by
 rcases h.2 with ⟨rfl,h0⟩ | ⟨g,cap,cur,rfl,_⟩
 ·exact ⟨none,0,by rw [h0]⟩
 ·exact ⟨_,_,rfl⟩
theorem zero_entryP (w:World):(zeroValue 118).run Tryz.prog w=.ok (.pointer none) w:=by kernel_rfl
set_option maxRecDepth 100000 in
set_option maxHeartbeats 1600000 in
theorem caHold_new {w:World} {c bm:Nat} {C:Ca} {k kind:Int} {lv:Value} {load:List UInt8} (h:CacheIn w c bm C) (hnew:∀ e∈C.all,e.key≠k) (hwf:(Lit.int .i64 k).wf=true) (hlv:OwnB w lv load) (hsz:C.all.length < 900000) :
  Calls Tryz.prog 23 #[.pointer (some ⟨c,0,none⟩),.int .i64 k,.agg #[.int .i64 kind,lv]] w fun e w'=>e=.returned (.tuple #[])∧∃ eb,CacheIn w' c bm { C with kept:=C.kept++[⟨eb,k,kind,lv,load⟩] }∧w.heap.size≤eb∧Keeps (caF c bm C) w w':=by
 obtain ⟨la,lc,rfl⟩:=owns_slice hlv
 obtain ⟨wA,hwA⟩:∃ x,x=w.alloc (.cells #[.int .i64 kind,.slice la load.length lc] 74 (0,0)):=⟨_,rfl⟩
 obtain ⟨gv,hgv⟩:∃ x,x=w.heap.size:=⟨_,rfl⟩
 have kA:Keeps [] w wA:=by rw [hwA];exact (Keeps.refl _ _).alloc _
 have hA:=h.keep (w':=wA) (fun j hj=>kA.block j (h.lt j hj) (by simp))
 have hfind:C.find k=none:=by
  unfold Ca.find
  rw [List.find?_eq_none.2 (fun e he=>by simpa using hnew e he)]
  rfl
 have hlk:=hA.map.look (tm:=119) (te:=118) Tryz.underlying3 Tryz.underlying119 (zero_entryP _) hwf
 rw [hfind] at hlk
 obtain ⟨wB,hwB⟩:∃ x,x=wA.alloc (.cells #[.int .i64 k,.int .i64 0,.slice none 0 0,.bool false,.pointer none,.pointer none] 121 (0,0)):=⟨_,rfl⟩
 obtain ⟨eb,heb⟩:∃ x,x=wA.heap.size:=⟨_,rfl⟩
 have kB:Keeps [] wA wB:=by rw [hwB];exact (Keeps.refl _ _).alloc _
 have hB:=hA.keep (w':=wB) (fun j hj=>kB.block j (hA.lt j hj) (by simp))
 obtain ⟨wC,hput,hmC,hgC,hsC⟩:=hB.map.put (tm:=119) (te:=118) Tryz.underlying3 Tryz.underlying119 (by simp only [maxLen];omega) (v:=eb) hwf
 obtain ⟨p1,n1,p2,n2,hroot⟩:=h.root
 have hcl:=lt_of_heap hroot
 have hcb:=h.c_ne
 have hsA:wA.heap.size=w.heap.size+1:=by rw [hwA];simp
 have hsB:wB.heap.size=w.heap.size+2:=by rw [hwB];simp;omega
 have hold:∀ b,b < w.heap.size→b≠bm→wC.heap[b]?=w.heap[b]?:=fun b x y=>by
  rw [hgC.block b (by omega) (by simpa using y),kB.block b (by omega) (by simp),kA.block b x (by simp)]
 have hbl:=h.map.lt
 have hEC:wC.heap[eb]?=some (.cells #[.int .i64 k,.int .i64 0,.slice none 0 0,.bool false,.pointer none,.pointer none] 121 (0,0)):=by
  rw [hgC.block eb (by omega) (by simp;omega),hwB]
  exact heap_new_at heb
 have hVC:wC.heap[gv]?=some (.cells #[.int .i64 kind,.slice la load.length lc] 74 (0,0)):=by
  rw [hgC.block gv (by omega) (by simp;omega),kB.block gv (by omega) (by simp),hwA]
  exact heap_new_at hgv
 obtain ⟨pb,po,hp⟩:∃ pb po,lastOf ⟨c,9⟩ (C.kept.map Ent.nd)=⟨pb,po⟩:=⟨_,_,rfl⟩
 have hback:=h.kring.back
 rw [hp] at hback
 have hcase:=lastOf_cases c 9 C.kept
 rw [hp] at hcase
 have hpbl:pb < w.heap.size∧pb≠bm∧(pb=c→po=9)∧∃ cs t,w.heap[pb]?=some (.cells cs t (0,0)):=by
  rcases hcase with ⟨h0,h1⟩ | ⟨l',e,h0,h1⟩
  ·simp only [Nd.mk.injEq] at h1
   obtain ⟨rfl,rfl⟩:=h1
   exact ⟨hcl,hcb,fun _=>rfl,_,_,hroot⟩
  ·simp only [Ent.nd,Nd.mk.injEq] at h1
   obtain ⟨rfl,rfl⟩:=h1
   have he:e∈C.all:=by rw [Ca.all,h0];simp
   obtain ⟨_,_,_,hr⟩:=h.ent he
   exact ⟨lt_of_heap hr,(h.blk_ne he).2.1,fun e1=>absurd e1 (h.blk_ne he).1,_,_,hr⟩
 obtain ⟨hpl,hpm,hpc,csp,tp,hrp⟩:=hpbl
 have hkl:C.kept.length≤C.all.length:=by simp [Ca.all]
 have hrootC:=(hold c hcl hcb).trans hroot
 have hrpC:=(hold pb hpl hpm).trans hrp
 have CL:=Lib.hid (row_last (w:=wC) (c:=c) (o:=9) (eb:=eb) (pb:=pb) (po:=po) (sz:=C.kept.length) (u4:=.pointer none) (u5:=.pointer none) (u6:=.pointer (some ⟨c,9,none⟩)) (cell_sets_of hEC rfl) (cell_sets_of hEC rfl)
  ((cell_of_heap (hold c hcl hcb) 13).trans hback.2) ((cell_of_heap (hold pb hpl hpm) (po+5)).trans hback.1) (cell_sets_of hrootC rfl)
  (fun j=>frozen_of_row wC eb j _ _ hEC) (fun j=>frozen_of_row wC c j _ _ hrootC) (fun j=>frozen_of_row wC pb j _ _ hrpC) (by omega) (by omega) hpc (by omega) (by omega))
 obtain ⟨wD,hwD⟩:∃ x,x=(lastW wC c 9 eb pb po C.kept.length).drew.drew:=⟨_,rfl⟩
 rw [← hwD] at CL
 obtain ⟨WS,hWS⟩:∃ x,x=sets wC [(eb,4,.pointer (some ⟨pb,po,none⟩)),(eb,5,.pointer (some ⟨c,9,none⟩)),(pb,po+5,.pointer (some ⟨eb,0,none⟩)),(c,13,.pointer (some ⟨eb,0,none⟩)),(c,15,.int .i64 (C.kept.length+1))]:=⟨_,rfl⟩
 have hwD':wD=WS.drew.drew:=by rw [hwD,hWS];rfl
 have hhD:wD.heap=WS.heap:=by rw [hwD'];rfl
 have ec:c≠eb:=by omega
 have ep:pb≠eb:=by omega
 have hED:wD.heap[eb]?=some (.cells #[.int .i64 k,.int .i64 0,.slice none 0 0,.bool false,.pointer (some ⟨pb,po,none⟩),.pointer (some ⟨c,9,none⟩)] 121 (0,0)):=by
  rw [hhD,hWS]
  have:=heap_sets [(eb,4,.pointer (some ⟨pb,po,none⟩)),(eb,5,.pointer (some ⟨c,9,none⟩)),(pb,po+5,.pointer (some ⟨eb,0,none⟩)),(c,13,.pointer (some ⟨eb,0,none⟩)),(c,15,.int .i64 (C.kept.length+1))] hEC
  simp only [List.foldl_cons,List.foldl_nil,if_true,if_neg ec,if_neg ep] at this
  exact this
 have hVD:wD.heap[gv]?=some (.cells #[.int .i64 kind,.slice la load.length lc] 74 (0,0)):=by
  rw [hhD,hWS]
  refine (heap_sets_other _ (fun x hx=>?_)).trans hVC
  simp only [List.mem_cons,List.not_mem_nil,or_false] at hx
  rcases hx with rfl | rfl | rfl | rfl | rfl <;> (show _≠gv;omega)
 have v0:wD.cell? ⟨gv,0,none⟩=some (.int .i64 kind):=cell_sets_of hVD rfl
 have v1:wD.cell? ⟨gv,1,none⟩=some (.slice la load.length lc):=cell_sets_of hVD rfl
 have g1:wD.cell? ⟨eb,1,none⟩=some (.int .i64 0):=cell_sets_of hED rfl
 have g2:wD.cell? ⟨eb,2,none⟩=some (.slice none 0 0):=cell_sets_of hED rfl
 have g3:wD.cell? ⟨eb,3,none⟩=some (.bool false):=cell_sets_of hED rfl
 have z1:=frozen_of_row wD eb 1 _ _ hED
 have z2:=frozen_of_row wD eb 2 _ _ hED
 have z3:=frozen_of_row wD eb 3 _ _ hED
 have cm:wA.cell? ⟨c,1,none⟩=some (.map (some bm)):=(cell_of_heap (kA.block c hcl (by simp)) 1).trans (cell_sets_of hroot rfl)
 have cmB:wB.cell? ⟨c,1,none⟩=some (.map (some bm)):=(cell_of_heap (kB.block c (by omega) (by simp)) 1).trans cm
 have hclose:=hold_close (w2:=wC) (kind:=kind) (load:=load) h hnew hwf hlv hold (by omega) hEC (by rw [show C.all.length=C.all.length from rfl];exact hmC) hp
 have hfin:sets wC (holdL c eb pb po C.kept.length kind (.slice la load.length lc))=((WS.setCell ⟨eb,1,none⟩ (.int .i64 kind)).setCell ⟨eb,2,none⟩ (.slice la load.length lc)).setCell ⟨eb,3,none⟩ (.bool true):=by rw [hWS];rfl
 have HFIN:=Lib.hid hfin
 have HCL:=Lib.hid hclose
 have HWD:=Lib.hid hwD'
 have hkeep:Keeps (caF c bm C) w (sets wC (holdL c eb pb po C.kept.length kind (.slice la load.length lc))):=by
  have k1:Keeps (caF c bm C) w wC:=(kA.mono (by simp)).trans ((kB.mono (G:=[bm]) (by simp)).grown hgC (fun j hj=>.inl (by simpa using hj.symm))) (fun j hj=>.inl (by simp at hj;subst hj;exact mem_caF.2 (.inr (.inl rfl))))
  refine k1.sets _ (fun x hx=>?_)
  have hpf:pb∈caF c bm C:=by
   rcases hcase with ⟨h0,h1⟩ | ⟨l',e,h0,h1⟩
   ·simp only [Nd.mk.injEq] at h1
    rw [h1.1];exact mem_caF.2 (.inl rfl)
   ·simp only [Ent.nd,Nd.mk.injEq] at h1
    rw [h1.1];exact mem_caF.2 (.inr (.inr (.inl ⟨e,by rw [Ca.all,h0];simp,rfl⟩)))
  have hcf:c∈caF c bm C:=mem_caF.2 (.inl rfl)
  have hef:w.heap.size≤eb:=by omega
  simp only [holdL,List.mem_cons,List.not_mem_nil,or_false] at hx
  rcases hx with rfl | rfl | rfl | rfl | rfl | rfl | rfl | rfl <;> first | exact .inr hef | exact .inl hpf | exact .inl hcf
 have HKP:=Lib.hid hkeep
 have HEB:=Lib.hid (show w.heap.size≤eb by omega)
 have hlk':(Instr.lookup 119 (.map (some bm)) (.int .i64 k) false).run Tryz.prog wA=.ok (.pointer none) wA:=hlk
 have HLK:=Lib.hid hlk'
 have HPU:=Lib.hid hput
 have HA:=Lib.hid hwA
 have HB:=Lib.hid hwB
 have HE:=Lib.hid heb
 have HV:=Lib.hid hgv
 clear h hnew hwf hlv hsz hwA hgv kA hA hfind hlk hlk' hwB heb kB hB hput hmC hgC hsC hroot hcl hcb hsA hsB hold hbl hEC hVC hp hback hcase hpl hpm hpc hrp hrootC hrpC hwD hwD' hhD hWS hfin hkl ec ep hED hVD hclose hkeep
 go_enter Tryz.func23,Tryz.ntmps23
 go_upto_region 1 with fail
 rw [← HA.out,← HV.out]
 go_upto_region 3 with (first | (refine wl_lookup rfl 119 (.tmp 10) (.tmp 11) false rfl ?_;refine ⟨_,_,HLK.out,?_⟩;try simp only [zA,zB,zC,zD,zE,zF,zG,zH]))
 go_upto_region 4 with fail
 rw [← HB.out,← HE.out]
 go_upto_region 5 with (first | (refine wl_mapUpdate rfl 119 (.tmp 22) (.tmp 23) (.tmp 24) rfl ?_;refine ⟨_,HPU.out,?_⟩;try simp only [zA,zB,zC,zD,zE,zF,zG,zH]))
 go_wp2_with fail
 refine CL.out.mono ?_
 rintro e w' ⟨rfl,hw'⟩
 obtain rfl:wD=w':=hw'.symm
 clear CL
 go_wp2_with fail
 refine Go.Great.bodyPost_end0 rfl rfl ⟨rfl,eb,?_,HEB.out,?_⟩
 ·have h1:=HCL.out
  rw [HFIN.out] at h1
  rw [HWD.out]
  exact h1.keep (fun _ _=>rfl)
 ·have h1:=HKP.out
  rw [HFIN.out] at h1
  rw [HWD.out]
  exact ⟨h1.os,h1.tape,h1.output,h1.size,h1.block⟩
theorem CacheIn.hit {w:World} {c bm:Nat} {C:Ca} (h:CacheIn w c bm C) (x:Int):CacheIn (w.setCell ⟨c,16,none⟩ (.int .i64 x)) c bm { C with hits:=x }:=by
 obtain ⟨W,hW⟩:∃ W,W=w.setCell ⟨c,16,none⟩ (.int .i64 x):=⟨_,rfl⟩
 rw [← hW]
 have hoth:∀ b,b≠c→W.heap[b]?=w.heap[b]?:=fun b hb=>by rw [hW];exact Below.heap_setCell w _ _ b hb
 have hcell:∀ b j,(b≠c∨j≠16)→W.cell? ⟨b,j,none⟩=w.cell? ⟨b,j,none⟩:=fun b j hj=>by
  rw [hW]
  exact World.cell?_setCell_other w _ _ _ (fun e=>by simp only [Addr.mk.injEq,and_true] at e;omega)
 have he:∀ e∈C.all,W.heap[e.blk]?=w.heap[e.blk]?:=fun e he=>hoth _ (h.blk_ne he).1
 obtain ⟨p1,n1,p2,n2,hr⟩:=h.root
 refine ⟨⟨p1,n1,p2,n2,?_⟩,?_,?_,?_,?_,h.map.keep (hoth bm h.c_ne.symm),?_,h.keys,h.wf⟩
 ·rw [hW]
  exact heap_setCell_same w c 16 _ _ (.int .i64 x) hr
 ·intro e hm
  obtain ⟨p,n,hr⟩:=h.clean e hm
  exact ⟨p,n,(he e (List.mem_append_left _ hm)).trans hr⟩
 ·intro e hm
  obtain ⟨p,n,hr⟩:=h.kept e hm
  exact ⟨p,n,(he e (List.mem_append_right _ hm)).trans hr⟩
 ·refine h.cring.congr (fun y hy=>?_)
  rcases List.mem_cons.1 hy with rfl | hy
  ·exact ⟨hcell _ _ (.inr (by show (2:Nat)+5≠16;omega)),hcell _ _ (.inr (by show (2:Nat)+4≠16;omega))⟩
  ·obtain ⟨e,hm,rfl⟩:=List.mem_map.1 hy
   exact ⟨cell_of_heap (he e (List.mem_append_left _ hm)) _,cell_of_heap (he e (List.mem_append_left _ hm)) _⟩
 ·refine h.kring.congr (fun y hy=>?_)
  rcases List.mem_cons.1 hy with rfl | hy
  ·exact ⟨hcell _ _ (.inr (by show (9:Nat)+5≠16;omega)),hcell _ _ (.inr (by show (9:Nat)+4≠16;omega))⟩
  ·obtain ⟨e,hm,rfl⟩:=List.mem_map.1 hy
   exact ⟨cell_of_heap (he e (List.mem_append_right _ hm)) _,cell_of_heap (he e (List.mem_append_right _ hm)) _⟩
 ·intro e hm
  exact ownsRow_keep (h.loads e hm) (fun k hk=>hoth k (h.load_ne hm hk).1)
theorem find_mem {l:List Ent} (hn:(l.map Ent.key).Nodup) {e:Ent} (he:e∈l):l.find? (fun x=>x.key == e.key)=some e:=by
 induction l with
 | nil=>simp at he
 | cons x l ih =>
  simp only [List.map_cons,List.nodup_cons] at hn
  rcases List.mem_cons.1 he with rfl | he
  ·simp
  ·have hne:x.key≠e.key:=fun e1=>hn.1 (by rw [e1];exact List.mem_map.2 ⟨e,he,rfl⟩)
   rw [List.find?_cons_of_neg (by simpa using hne)]
   exact ih hn.2 he
theorem size_content:(Tryz.prog.info? 74).map (·.size)=some 2:=by kernel_rfl
set_option maxRecDepth 100000 in
set_option maxHeartbeats 1600000 in
theorem caGet_held {w:World} {c bm:Nat} {C:Ca} {e:Ent} (h:CacheIn w c bm C) (he:e∈C.kept) :
  Calls Tryz.prog 97 #[.pointer (some ⟨c,0,none⟩),.int .i64 e.key] w fun r w'=>r=.returned (.tuple #[.agg #[.int .i64 e.kind,e.lv],.bool true])∧CacheIn w' c bm { C with hits:=wrap64 (C.hits+1) }∧Keeps [c] w w':=by
 have hall:e∈C.all:=List.mem_append_right _ he
 obtain ⟨la,lc,hlv⟩:=owns_slice (h.loads e hall)
 obtain ⟨w0,hw0⟩:∃ x,x=w.alloc (.cells #[.int .i64 0,.slice none 0 0] 74 (0,0)):=⟨_,rfl⟩
 obtain ⟨g0,hg0⟩:∃ x,x=w.heap.size:=⟨_,rfl⟩
 have k0:Keeps [] w w0:=by rw [hw0];exact (Keeps.refl _ _).alloc _
 have h0:=h.keep (w':=w0) (fun j hj=>k0.block j (h.lt j hj) (by simp))
 have hfind:C.find e.key=some e.blk:=by unfold Ca.find;rw [find_mem h.keys hall];rfl
 have hlk:(Instr.lookup 119 (.map (some bm)) (.int .i64 e.key) false).run Tryz.prog w0=.ok (.pointer (some ⟨e.blk,0,none⟩)) w0:=by
  have:=h0.map.look (tm:=119) (te:=118) Tryz.underlying3 Tryz.underlying119 (zero_entryP _) (h.wf e hall)
  rw [hfind] at this
  exact this
 obtain ⟨p1,n1,p2,n2,hroot⟩:=h0.root
 obtain ⟨pe,ne,hent⟩:=h0.kept e he
 obtain ⟨hb1,hb2,_⟩:=h.blk_ne hall
 have hcl:=h.lt c (by simp [caF])
 have hel:=h.lt e.blk (mem_caF.2 (.inr (.inr (.inl ⟨e,hall,rfl⟩))))
 have hz0:w0.heap[g0]?=some (.cells #[.int .i64 0,.slice none 0 0] 74 (0,0)):=by rw [hw0];exact heap_new_at hg0
 obtain ⟨w1,hw1⟩:∃ x,x=w0.setCell ⟨c,16,none⟩ (.int .i64 (wrap64 (C.hits+1))):=⟨_,rfl⟩
 have hH:=h0.hit (wrap64 (C.hits+1))
 rw [← hw1] at hH
 have hoth:∀ b,b≠c→w1.heap[b]?=w0.heap[b]?:=fun b hb=>by rw [hw1];exact Below.heap_setCell w0 _ _ b hb
 have hent1:=(hoth e.blk hb1).trans hent
 have hz1:=(hoth g0 (by omega)).trans hz0
 have m1:w0.cell? ⟨c,1,none⟩=some (.map (some bm)):=cell_sets_of hroot rfl
 have m16:w0.cell? ⟨c,16,none⟩=some (.int .i64 C.hits):=cell_sets_of hroot rfl
 have z16:=frozen_of_row w0 c 16 _ _ hroot
 have e3:w1.cell? ⟨e.blk,3,none⟩=some (.bool true):=cell_sets_of hent1 rfl
 have e1:w1.cell? ⟨e.blk,1,none⟩=some (.int .i64 e.kind):=cell_sets_of hent1 rfl
 have e2:w1.cell? ⟨e.blk,2,none⟩=some (.slice la e.load.length lc):=by rw [← hlv];exact cell_sets_of hent1 rfl
 have y0:w1.cell? ⟨g0,0,none⟩=some (.int .i64 0):=cell_sets_of hz1 rfl
 have y1:w1.cell? ⟨g0,1,none⟩=some (.slice none 0 0):=cell_sets_of hz1 rfl
 have q0:=frozen_of_row w1 g0 0 _ _ hz1
 have q1:=frozen_of_row w1 g0 1 _ _ hz1
 have hr0:(w1.setCells g0 0 [.int .i64 e.kind,e.lv]).heap[g0]?=some (.cells #[.int .i64 e.kind,e.lv] 74 (0,0)):=heap_setCells_same g0 74 [.int .i64 e.kind,e.lv] 0 w1 [.int .i64 0,.slice none 0 0] hz1 (by simp)
 have hst:=run_storeAt_mid (P:=Tryz.prog) w1 g0 0 74 #[.int .i64 e.kind,e.lv] (there_all (cs:=[.int .i64 0,.slice none 0 0]) hz1 0 2 (by simp)) (by rw [size_content];rfl) (all_oneCell_toArray (cs:=[.int .i64 e.kind,e.lv]) (by rw [hlv];intro v hv;simp only [List.mem_cons,List.not_mem_nil,or_false] at hv;rcases hv with rfl | rfl <;> rfl))
 have HST:=Lib.hid hst
 have HR0:=Lib.hid hr0
 have HLK:=Lib.hid hlk
 have HHH:=Lib.hid hH
 have HW0:=Lib.hid hw0
 have HG0:=Lib.hid hg0
 have HW1:=Lib.hid hw1
 have HLV:=Lib.hid hlv
 have HLD:=Lib.hid (show (Instr.loadAt 74 (.pointer (some ⟨e.blk,1,none⟩))).run Tryz.prog w1=.ok (.agg #[.int .i64 e.kind,e.lv]) w1 from run_loadAt_mid w1 e.blk 1 74 [.int .i64 e.kind,e.lv] _ (fun j u hu=>by
  match j with
  | 0=>simp at hu;subst hu;exact e1
  | 1=>simp at hu;subst hu;rw [hlv];exact e2
  | j+2=>simp at hu) Tryz.underlying74 rfl (by rw [size_content];rfl))
 have HKP:Hid (Keeps [c] w (w1.setCells g0 0 [.int .i64 e.kind,e.lv])):=Lib.hid (by
  rw [hw1]
  exact ((k0.mono (G:=[c]) (by simp)).setCell (.inl (by simp)) _).setCells (.inr (by omega)) _ _)
 have HFN:=Lib.hid (show CacheIn (w1.setCells g0 0 [.int .i64 e.kind,e.lv]) c bm { C with hits:=wrap64 (C.hits+1) } from hH.keep (fun j hj=>heap_setCells_other _ _ _ (fun ej=>by
  have:caF c bm { C with hits:=wrap64 (C.hits+1) }=caF c bm C:=rfl
  rw [this] at hj
  have:=h.lt j hj
  omega) _ _))
 clear h he hall hlv hw0 hg0 k0 h0 hfind hlk hroot hent hb1 hb2 hcl hel hz0 hw1 hH hoth hent1 hz1 hr0 hst
 go_enter Tryz.func97,Tryz.ntmps97
 go_upto_region 1 with fail
 rw [← HW0.out,← HG0.out]
 go_upto_region 7 with (first | (refine wl_lookup rfl 119 (.tmp 11) (.tmp 12) false rfl ?_;refine ⟨_,_,HLK.out,?_⟩;try simp only [zA,zB,zC,zD,zE,zF,zG,zH]))
 rw [← HW1.out]
 go_wp2_with (first | (refine wl_load rfl 74 (.tmp 48) rfl ?_;refine ⟨_,_,HLD.out,?_⟩;try simp only [zA,zB,zC,zD,zE,zF,zG,zH]) | (refine wl_store rfl 74 (.tmp 4) (.tmp 49) rfl ?_;refine ⟨_,HST.out,?_⟩;try simp only [zA,zB,zC,zD,zE,zF,zG,zH]))
 exact bodyPost_ret (results_row2 (cs:=[.int .i64 e.kind,e.lv]) rfl rfl rfl (rangeAt_all HR0.out) Tryz.underlying74 rfl (by rw [size_content];rfl)) rfl ⟨rfl,HFN.out,HKP.out⟩
end Go.Proofs.YtakaocenbempmaaGreatDoor
