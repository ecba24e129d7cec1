/-
  Lemmas of a claim, bundle T: XFiE XFiF XStA XStB XStC XStD XFiP XPrA.
-/
import Derived.Test.YtakaocenbempmaaGreatDoorPfN
import Derived.Test.YtakaocenbempmaaGreatDoorPfS
import Derived.Test.YtakaocenbempmaaGreatDoorPfR
import Derived.Test.YtakaocenbempmaaGreatDoorPfB
set_option linter.unusedVariables false
set_option linter.unusedSimpArgs false
namespace Go.Proofs.YtakaocenbempmaaGreatDoor
open Go.RowKit
theorem info_step:(Tryz.prog.info? 110).map (fun i=>(i.zero,i.size,i.bytes))=some (some .nilFunc,1,8):=by kernel_rfl
theorem run_buildSlice_steps (w:World) (n1 n2 n3 n4:Fn) (x1 y1 x2 y2 x3 y3 x4 y4:Array Value):(Instr.buildSlice 142 4 #[(0,.func n1 x1 y1),(1,.func n2 x2 y2),(2,.func n3 x3 y3),(3,.func n4 x4 y4)]).run Tryz.prog w=.ok (.slice (some ⟨w.heap.size,0,none⟩) 4 4) (w.alloc (.cells #[.func n1 x1 y1,.func n2 x2 y2,.func n3 x3 y3,.func n4 x4 y4] 110 (0,0))):=by
 obtain ⟨i,hi,h1,h2,h3⟩:=info_parts info_step
 refine run_buildSlice w _ _ _ _ _ i .nilFunc Tryz.underlying142 hi h1 (by rw [h2];omega) (by rw [h2];omega) ?_
 rw [h2]
 kernel_rfl
def supA (width n:Int):Sup:=⟨width,0,2,0,n⟩
def supB (width n:Int):Sup:=⟨width,1,2,0,n⟩
theorem supA_valid {width n:Nat} (h1:1≤width) (h2:width≤32) (h3:3≤n) (h4:n≤4096):(supA width n).valid=true:=by
 unfold supA Sup.valid
 simp only [Bool.and_eq_true,Bool.or_eq_true,decide_eq_true_eq]
 refine ⟨⟨⟨⟨⟨⟨⟨⟨?_,?_⟩,?_⟩,?_⟩,?_⟩,?_⟩,?_⟩,?_⟩,.inl trivial⟩ <;> omega
theorem supB_valid {width n:Nat} (h1:1≤width) (h2:width≤32) (h3:3≤n) (h4:n≤4096):(supB width n).valid=true:=by
 unfold supB Sup.valid
 simp only [Bool.and_eq_true,Bool.or_eq_true,decide_eq_true_eq]
 refine ⟨⟨⟨⟨⟨⟨⟨⟨?_,?_⟩,?_⟩,?_⟩,?_⟩,?_⟩,?_⟩,?_⟩,.inl trivial⟩ <;> omega
def fmtD (d:D) (width:Nat):D:=stepD { d with reads:=wrap64 (wrap64 (d.reads+1)+1) } (supA width d.n) (supB width d.n) 4
set_option maxRecDepth 100000 in
set_option maxHeartbeats 1600000 in
theorem format_blank {w:World} {b:Nat} {d:D} {F:List Nat} {width:Nat} (hd:DiskAt w b d F) (hc:d.calm) (hq:d.q=[]) (hbl:chooseL (d.read 0) (d.read 1)=(55,zSup)) (h1:1≤width) (h2:width≤32) :
  Calls Tryz.prog 18 #[.pointer (some ⟨b,0,none⟩),.int .i64 width] w fun e w'=>e=.returned (.int .i64 0)∧DStep w b F (fmtD d width) w':=by
 have hmf:∀ (fn:Fn) (first cap:Array Value) (w:World),(Instr.makeFunc fn first cap).run Tryz.prog w=.ok (.func fn first cap) w:=fun _ _ _ _=>rfl
 obtain ⟨hn3,hn4,_⟩:=hd.ok
 obtain ⟨n,hn⟩:∃ n,n=d.n:=⟨_,rfl⟩
 obtain ⟨d1,hd1⟩:∃ d1:D,d1={ d with reads:=wrap64 (wrap64 (d.reads+1)+1) }:=⟨_,rfl⟩
 have hc1:d1.calm:=by rw [hd1];exact ⟨hc.dead,hc.armed⟩
 have CS:=slots_any hd hc.dead
 rw [hbl,← hd1] at CS
 obtain ⟨_,_,d8,_,_⟩:=hd.dcells
 rw [hc.dead] at d8
 have CP:=Lib.hid (dPower_any d8)
 have hE:fmtD d width=stepD d1 (supA width n) (supB width n) 4:=by rw [hd1,hn];rfl
 obtain ⟨E,hE'⟩:∃ E,E=fmtD d width:=⟨_,rfl⟩
 rw [← hE'] at hE ⊢
 have hn1:d1.n=n:=by rw [hd1,hn]
 have hq1:d1.q=[]:=by rw [hd1];exact hq
 have HE:=Lib.hid hE
 have HC1:=Lib.hid hc1
 have HN1:=Lib.hid hn1
 have HQ1:=Lib.hid hq1
 rw [← hn] at hn3 hn4
 have HV:=Lib.hid (And.intro (supA_valid h1 h2 hn3 hn4) (supB_valid h1 h2 hn3 hn4))
 have CS':=Lib.hid CS
 have HD:=Lib.hid hd
 have b1:(1:Int)≤(width:Int):=by omega
 have b2:(width:Int)≤32:=by omega
 clear hd hc hq hbl hn3 hn4 hn hd1 hc1 CS d8 hE hE' hn1 hq1 h1 h2
 go_enter Tryz.func18,Tryz.ntmps18
 go_wp2_with (go_at_call 39;refine CP.out.mono ?_;rintro e w' ⟨rfl,rfl⟩)
 refine CS'.out.mono ?_
 rintro e w1 ⟨rfl,F1,hdd,hf1,hk1⟩
 obtain ⟨w2,hw2⟩:∃ w2,w2=w1.alloc (.cells (supC zSup).toArray 42 (0,0)):=⟨_,rfl⟩
 have hst2:=run_storeAt_new (P:=Tryz.prog) w1 42 #[.int .i64 0,.int .i64 0,.int .i64 0,.int .i64 0,.int .i64 0] (supC zSup).toArray (by rw [size_super];rfl) rfl (all_oneCell_toArray (supC_one _))
 have hk12:Keeps [] w1 w2:=by rw [hw2];exact (Keeps.refl _ _).alloc _
 have hdd2:=hdd.keeps hk12 (by simp)
 obtain ⟨bp,d4,_,_,_⟩:=hdd2.dcells
 rw [HN1.out] at d4
 have CG:=Lib.hid (dPages_any d4)
 have HST2:=Lib.hid hst2
 have HW2:=Lib.hid hw2
 have HD2:=Lib.hid hdd2
 have HF1:=Lib.hid hf1
 have HK1:=Lib.hid hk1
 have HK12:=Lib.hid hk12
 clear hst2 hw2 hdd2 hf1 hk1 hk12 hdd d4 CP CS'
 go_upto_region 8 with (first | (refine wl_store rfl 42 (.tmp 5) (.tmp 23) rfl ?_;refine ⟨_,HST2.out,?_⟩;try simp only [zA,zB,zC,zD,zE,zF,zG,zH]))
 rw [show w1.alloc (.cells (supC zSup).toArray 42)=w2 from HW2.out.symm]
 obtain ⟨gA,hgA⟩:∃ g,g=w2.heap.size:=⟨_,rfl⟩
 obtain ⟨gB,hgB⟩:∃ g,g=w2.heap.size+1:=⟨_,rfl⟩
 obtain ⟨w3,hw3⟩:∃ w3,w3=(w2.alloc (.cells #[.int .i64 width,.int .i64 0,.int .i64 2,.int .i64 0,.int .i64 n] 42 (0,0))).alloc (.cells #[.int .i64 width,.int .i64 1,.int .i64 2,.int .i64 0,.int .i64 n] 42 (0,0)):=⟨_,rfl⟩
 have sa:SupAt w3 gA (supA width n):=by rw [hw3];exact (heap_old_at (by simp;omega)).trans (heap_new_at hgA)
 have sb:SupAt w3 gB (supB width n):=by rw [hw3];exact heap_new_at (by simp;omega)
 have hk23:Keeps [] w2 w3:=by rw [hw3];exact ((Keeps.refl _ _).alloc _).alloc _
 have SA:=Lib.hid sa
 have SB:=Lib.hid sb
 have HW3:=Lib.hid hw3
 have HGA:=Lib.hid hgA
 have HGB:=Lib.hid hgB
 have HK3:=Lib.hid hk23
 clear sa sb hw3 hgA hgB hk23
 go_upto_region 13 with (go_at_call 41;refine CG.out.mono ?_;rintro e w' ⟨rfl,rfl⟩)
 rw [← HW3.out,← HGB.out,← HGA.out]
 have nA:gA ∉ F1:=HD2.out.notin (Nat.le_of_eq HGA.out.symm)
 have nB:gB ∉ F1:=HD2.out.notin (by have:=HGB.out;omega)
 have NA:=Lib.hid nA
 have NB:=Lib.hid nB
 clear nA nB
 refine wp_region_held_drew (S:=(fun w'=>SupAt w' gA (supA width n)∧SupAt w' gB (supB width n))) (by kernel_rfl) ?_ (fun hHeld=>?_)
 ·exact ⟨SA.out,SB.out⟩
 refine tk 0 ?_
 refine tkb 1 rfl (yieldsIf_load_mid (by rfl) 42 (.tmp 7) rfl gA 0 rfl (supC (supA width n)) _ (fun _ h=>rangeAt_all h.1) Tryz.underlying42 rfl (by rw [size_super];rfl)) ?_
 refine tk 3 ?_
 refine tk 4 ?_
 refine tk 5 ?_
 refine tkb 6 rfl (yieldsIf_load_mid (by rfl) 42 (.tmp 8) rfl gB 0 rfl (supC (supB width n)) _ (fun _ h=>rangeAt_all h.2) Tryz.underlying42 rfl (by rw [size_super];rfl)) ?_
 refine tk 8 ?_
 refine tk 9 ?_
 clear hHeld
 refine ac 2 fun K hK=>?_
 go_simp
 refine (lay_any (supA width n)).mono ?_
 rintro e w4 ⟨g1,e1,rfl,hl1,hg1,hg1',hk4⟩
 have hk34:Keeps [] w3 w4:=((Keeps.refl [] w3).drew).trans (G:=[]) hk4 (by simp)
 have HK4:=Lib.hid hk34
 have HL1:=Lib.hid hl1
 have HN1:=Lib.hid (show g1 ∉ F1∧e1 ∉ F1 from ⟨HD2.out.notin (Nat.le_trans HK3.out.size hg1),HD2.out.notin (Nat.le_trans HK3.out.size hg1')⟩)
 clear hk4 hk34 hl1 hg1 hg1'
 refine hK.out _ _ ?_ (fun hHeld=>?_)
 ·exact ⟨SA.out.keeps HK4.out (by simp),SB.out.keeps HK4.out (by simp)⟩
 clear hK K
 try simp only [zA,zB,zC,zD,zE,zF,zG,zH]
 clear hHeld
 refine ac 7 fun K hK=>?_
 go_simp
 refine (lay_any (supB width n)).mono ?_
 rintro e w5 ⟨g2,e2,rfl,hl2,hg2,hg2',hk5⟩
 have HL2:=Lib.hid hl2
 have HL1':=Lib.hid (HL1.out.keeps hk5 (by simp) (by simp))
 have HN2:=Lib.hid (show g2 ∉ F1∧e2 ∉ F1 from ⟨HD2.out.notin (Nat.le_trans (Nat.le_trans HK3.out.size HK4.out.size) hg2),HD2.out.notin (Nat.le_trans (Nat.le_trans HK3.out.size HK4.out.size) hg2')⟩)
 have HK5:=Lib.hid (HK4.out.trans (G:=[]) hk5 (by simp))
 clear hk5 hl2 hg2 hg2' HL1
 refine hK.out _ _ ?_ (fun hHeld=>?_)
 ·exact ⟨SA.out.keeps HK5.out (by simp),SB.out.keeps HK5.out (by simp)⟩
 clear hK K
 try simp only [zA,zB,zC,zD,zE,zF,zG,zH]
 clear hHeld
 refine ac 10 fun K hK=>?_
 (refine st_buildSlice rfl 142 4 #[(0,.tmp 35),(1,.tmp 37),(2,.tmp 40),(3,.tmp 42)] #[(0,layFn g1 e1),(1,.func (.func 44) #[.pointer (some ⟨b,0,none⟩)] #[]),(2,layFn g2 e2),(3,.func (.func 44) #[.pointer (some ⟨b,0,none⟩)] #[])] rfl (by simp [Act.eval]) ?_;refine ⟨_,_,run_buildSlice_steps _ _ _ _ _ _ _ _ _ _ _ _ _,?_⟩;try simp only [zA,zB,zC,zD,zE,zF,zG,zH])
 obtain ⟨w6,hw6⟩:∃ w6,w6=w5.alloc (.cells #[.func (.func 68) #[] #[.pointer (some ⟨g1,0,none⟩),.pointer (some ⟨e1,0,none⟩)],.func (.func 44) #[.pointer (some ⟨b,0,none⟩)] #[],.func (.func 68) #[] #[.pointer (some ⟨g2,0,none⟩),.pointer (some ⟨e2,0,none⟩)],.func (.func 44) #[.pointer (some ⟨b,0,none⟩)] #[]] 110 (0,0)):=⟨_,rfl⟩
 obtain ⟨gq,hgq⟩:∃ g,g=w5.heap.size:=⟨_,rfl⟩
 have hk56:Keeps [] w5 w6:=by rw [hw6];exact (Keeps.refl _ _).alloc _
 have hbq:w6.heap[gq]?=some (.cells #[layFn g1 e1,syncFn b,layFn g2 e2,syncFn b] 110 (0,0)):=by rw [hw6];exact heap_new_at hgq
 have hk26:Keeps [] w2 w6:=(HK3.out.trans (G:=[]) HK5.out (by simp)).trans (G:=[]) hk56 (by simp)
 have hn:gq ∉ F1:=HD2.out.notin (by rw [hgq];exact Nat.le_trans HK3.out.size HK5.out.size)
 have CI:=Lib.hid (inOrder_four (w:=w6) hbq (HL1'.out.keeps hk56 (by simp) (by simp)) (HL2.out.keeps hk56 (by simp) (by simp)) HV.out.1 HV.out.2 (HD2.out.keeps hk26 (by simp)) HC1.out (by rw [HQ1.out];simp) hn HN1.out HN2.out)
 have HK26:=Lib.hid hk26
 have SA6:=Lib.hid (SA.out.keeps (HK5.out.trans (G:=[]) hk56 (by simp)) (by simp))
 have SB6:=Lib.hid (SB.out.keeps (HK5.out.trans (G:=[]) hk56 (by simp)) (by simp))
 rw [← hw6,← hgq]
 clear hw6 hgq hk56 hbq hk26 hn
 refine hK.out _ _ ?_ (fun hHeld=>?_)
 ·exact ⟨SA6.out,SB6.out⟩
 clear hK K
 try simp only [zA,zB,zC,zD,zE,zF,zG,zH]
 clear hHeld
 refine ac 11 fun K hK=>?_
 go_simp
 refine CI.out.mono ?_
 rintro e w7 ⟨rfl,F7,hd7,hf7,hk7⟩
 have HR:=Lib.hid (show DStep w b F E w7 by
  rw [HE.out]
  exact DStep.trans HF1.out HK1.out (DStep.trans (F1:=F1) (w1:=w6) (fun k hk=>.inl hk) ((HK12.out.trans (G:=[]) HK26.out (by simp)).mono (by simp)) ⟨F7,hd7,hf7,hk7⟩))
 refine hK.out _ _ ?_ (fun hHeld=>?_)
 ·exact ⟨SA6.out.keeps hk7 NA.out,SB6.out.keeps hk7 NB.out⟩
 clear hK K
 try simp only [zA,zB,zC,zD,zE,zF,zG,zH]
 clear hd7 hf7 hk7
 refine tk 12 ?_
 refine wpAnyH_done (by kernel_rfl) ?_ _
 clear hHeld
 go_wp2_with fail
 go_ret
 exact ⟨rfl,HR.out⟩
open Go.RowKit
theorem dClaim_step {w:World} {b:Nat} {d:D} {F:List Nat} (hI:DiskAt w b d F) :
  Calls Tryz.prog 73 #[.pointer (some ⟨b,0,none⟩)] w fun e w'=>e=.returned (.int .i64 (wrap64 (d.epoch+1)))∧DiskAt w' b { d with epoch:=wrap64 (d.epoch+1) } F∧Keeps F w w':=by
 obtain ⟨bp,qv,bm,hI,rfl⟩:=hI
 obtain ⟨c0,c1,c2,c3,c4,c5,c6,c7,c8,c9⟩:=hI.cells
 refine (dClaim_any c9 (hI.free 9)).mono ?_
 rintro e w' ⟨rfl,rfl⟩
 exact ⟨rfl,⟨bp,qv,bm,hI.setc { d with epoch:=wrap64 (d.epoch+1) } 9 _ rfl rfl hI.ok rfl,rfl⟩,(Keeps.refl _ _).setCell (.inl (by simp)) _⟩
def openD (d:D):D:={ d with reads:=wrap64 (wrap64 (d.reads+1)+1),epoch:=wrap64 (d.epoch+1) }
set_option maxRecDepth 100000 in
set_option maxHeartbeats 1600000 in
theorem open_ok {w:World} {b:Nat} {d:D} {F:List Nat} {s:Sup} (hd:DiskAt w b d F) (hp:d.dead=false) (hch:chooseL (d.read 0) (d.read 1)=(0,s)) (hpg:s.pages=d.n) :
  Calls Tryz.prog 45 #[.pointer (some ⟨b,0,none⟩)] w fun e w'=>∃ bf F',e=.returned (.tuple #[.pointer (some ⟨bf,0,none⟩),.int .i64 0])∧FileAt w' bf b ⟨s,s.mark,wrap64 (d.epoch+1)⟩∧DiskAt w' b (openD d) F'∧From w F F'∧Keeps F w w'∧w.heap.size≤bf∧bf ∉ F':=by
 obtain ⟨W,G,M,H,P⟩:=s
 dsimp only at hpg ⊢
 have CS:=slots_any hd hp
 rw [hch] at CS
 obtain ⟨d1,hd1⟩:∃ d1:D,d1={ d with reads:=wrap64 (wrap64 (d.reads+1)+1) }:=⟨_,rfl⟩
 obtain ⟨E,hE⟩:∃ x,x=wrap64 (d.epoch+1):=⟨_,rfl⟩
 have ho:openD d={ d1 with epoch:=E }:=by rw [hd1,hE];rfl
 have he1:wrap64 (d1.epoch+1)=E:=by rw [hd1,hE]
 have hn1:(d1.n:Int)=P:=by rw [hd1];exact hpg.symm
 rw [← hd1] at CS
 rw [ho,← hE]
 have CS':=Lib.hid CS
 have HE1:=Lib.hid he1
 have HN1:=Lib.hid hn1
 clear hd hp hch hpg CS hd1 hE ho he1 hn1
 go_enter Tryz.func45,Tryz.ntmps45
 go_wp2_with fail
 refine CS'.out.mono ?_
 rintro e w1 ⟨rfl,F1,hdd,hf1,hk1⟩
 obtain ⟨w2,hw2⟩:∃ w2,w2=w1.alloc (.cells #[.int .i64 W,.int .i64 G,.int .i64 M,.int .i64 H,.int .i64 P] 42 (0,0)):=⟨_,rfl⟩
 obtain ⟨gs,hgs⟩:∃ g,g=w1.heap.size:=⟨_,rfl⟩
 have hst2:=run_storeAt_new (P:=Tryz.prog) w1 42 #[.int .i64 0,.int .i64 0,.int .i64 0,.int .i64 0,.int .i64 0] #[.int .i64 W,.int .i64 G,.int .i64 M,.int .i64 H,.int .i64 P] (by rw [size_super];rfl) rfl (all_oneCell_toArray (supC_one ⟨W,G,M,H,P⟩))
 have hk12:Keeps [] w1 w2:=by rw [hw2];exact (Keeps.refl _ _).alloc _
 have hs2:SupAt w2 gs ⟨W,G,M,H,P⟩:=by rw [hw2];exact heap_new_at hgs
 have hdd2:=hdd.keeps hk12 (by simp)
 have hk02:Keeps F w w2:=hk1.trans (G:=[]) hk12 (by simp)
 obtain ⟨bp,d4,_,_,_⟩:=hdd2.dcells
 have CG:∀ wx:World,wx.cell? ⟨b,4,none⟩=some (.slice (some ⟨bp,0,none⟩) d1.n d1.n)→Calls Tryz.prog 41 #[.pointer (some ⟨b,0,none⟩)] wx fun e w'=>e=.returned (.int .i64 P)∧wx=w':=fun wx h=>by
  have:=dPages_any h
  rw [HN1.out] at this
  exact this
 have CG':=Lib.hid CG
 have HST2:=Lib.hid hst2
 have HW2:=Lib.hid hw2
 have HD2:=Lib.hid hdd2
 have HF1:=Lib.hid hf1
 have HK02:=Lib.hid hk02
 have HGS:=Lib.hid hgs
 have HS2:=Lib.hid hs2
 have HD4:=Lib.hid d4
 have NS:=Lib.hid (show gs ∉ F1 from hdd.notin (Nat.le_of_eq hgs.symm))
 have LE:=Lib.hid (show w.heap.size≤w1.heap.size from hk1.size)
 clear hdd hf1 hk1 hw2 hgs hst2 hk12 hs2 hdd2 hk02 d4 CG CS'
 go_upto_region 4 with (first | (refine wl_store rfl 42 (.tmp 4) (.tmp 11) rfl ?_;refine ⟨_,HST2.out,?_⟩;try simp only [zA,zB,zC,zD,zE,zF,zG,zH]))
 rw [← HW2.out,← HGS.out]
 go_upto_region 6 with fail
 have cs4:=HS2.out.cells.2.2.2.2
 refine wp_region_held_drew (S:=(fun w'=>w'.cell? ⟨gs,4,none⟩=some (.int .i64 P)∧w'.cell? ⟨b,4,none⟩=some (.slice (some ⟨bp,0,none⟩) d1.n d1.n))) (by kernel_rfl) ?_ (fun hHeld=>?_)
 ·exact ⟨cs4,HD4.out⟩
 refine tk 0 ?_
 refine tk 1 ?_
 refine tk 2 ?_
 refine hc_take (i:=3) (v:=.int .i64 P) rfl (by kernel_rfl) (by kernel_rfl) (by kernel_rfl) (fun _ _ _ h=>h) (yieldsC_call (by rfl) 41 _ _ rfl Tryz.f41 Tryz.func41 (by kernel_rfl) rfl #[.pointer (some ⟨b,0,none⟩)] (by simp [Act.eval]) (fun w0 hS=>CG'.out w0 hS.2)) (by assumption) ?_
 try simp only [zA,zB,zC,zD,zE,zF,zG,zH]
 refine tk 4 ?_
 refine wpAnyH_done (by kernel_rfl) ?_ _
 clear hHeld cs4 CG'
 have CC:=Lib.hid (dClaim_step (w:=w2.drew.drew) (b:=b) (d:=d1) (F:=F1) (HD2.out.keeps ((Keeps.refl [] _).drew.drew) (by simp)))
 rw [HE1.out] at CC
 go_upto_region 8 with fail
 refine wp_region_held_drew (S:=(fun w'=>SupAt w' gs ⟨W,G,M,H,P⟩∧w'.cell? ⟨gs,2,none⟩=some (.int .i64 M))) (by kernel_rfl) ?_ (fun hHeld=>?_)
 ·exact ⟨HS2.out,HS2.out.cells.2.2.1⟩
 refine tk 0 ?_
 refine tkb 1 rfl (yieldsIf_load_mid (by rfl) 42 (.tmp 4) rfl gs 0 rfl [.int .i64 W,.int .i64 G,.int .i64 M,.int .i64 H,.int .i64 P] _ (fun _ h=>rangeAt_all h.1) Tryz.underlying42 rfl (by rw [size_super];rfl)) ?_
 refine tk 2 ?_
 refine tk 3 ?_
 refine tk 4 ?_
 clear hHeld
 refine ac 5 fun K hK=>?_
 go_simp
 refine CC.out.mono ?_
 rintro e w3 ⟨rfl,hd3,hk3⟩
 have HD3:=Lib.hid hd3
 have HK3:=Lib.hid hk3
 clear hd3 hk3
 have hk3':Keeps F1 w2 w3:=((Keeps.refl F1 w2).drew.drew).trans (G:=F1) HK3.out (fun k hk=>.inl hk)
 have HK3':=Lib.hid hk3'
 clear hk3'
 refine hK.out _ _ ?_ (fun hHeld=>?_)
 ·have:=HS2.out.keeps HK3'.out NS.out
  exact ⟨this,this.cells.2.2.1⟩
 clear hK K
 try simp only [zA,zB,zC,zD,zE,zF,zG,zH]
 refine tk 6 ?_
 refine ac 7 fun K hK=>?_
 go_simp
 refine hK.out _ _ ?_ (fun hHeld=>?_)
 ·have:=(HS2.out.keeps HK3'.out NS.out).keeps ((Keeps.refl [] _).alloc (.cells #[.pointer (some ⟨b,0,none⟩),.int .i64 W,.int .i64 G,.int .i64 M,.int .i64 H,.int .i64 P,.int .i64 M,.int .i64 E] 117 (0,0))) (by simp)
  exact ⟨this,this.cells.2.2.1⟩
 clear hK K
 try simp only [zA,zB,zC,zD,zE,zF,zG,zH]
 refine tk 8 ?_
 refine tk 9 ?_
 refine wpAnyH_done (by kernel_rfl) ?_ _
 go_wp2_with fail
 go_ret2
 have hk4:Keeps [] w3 (w3.alloc (.cells #[.pointer (some ⟨b,0,none⟩),.int .i64 W,.int .i64 G,.int .i64 M,.int .i64 H,.int .i64 P,.int .i64 M,.int .i64 E] 117 (0,0))):=(Keeps.refl _ _).alloc _
 refine ⟨w3.heap.size,F1,rfl,heap_new_at rfl,HD3.out.keeps hk4 (by simp),HF1.out,(HK02.out.trans HK3'.out HF1.out).trans hk4 (by simp),Nat.le_trans HK02.out.size HK3'.out.size,HD3.out.notin (Nat.le_refl _)⟩
theorem fForget_any {w:World} {bf b:Nat} {f:Fi} (hf:FileAt w bf b f) :
  Calls Tryz.prog 74 #[.pointer (some ⟨bf,0,none⟩)] w fun e w'=>e=.returned (.tuple #[])∧FileAt w' bf b ⟨f.sup,f.sup.mark,f.mine⟩∧Keeps [bf] w w':=by
 obtain ⟨c0,c3,c6,c7⟩:=hf.cells
 have f6:=hf.free 6
 have HF:=Lib.hid hf
 clear hf
 go_enter Tryz.func74,Tryz.ntmps74
 go_wp2_with fail
 refine Go.Great.bodyPost_end0 rfl rfl ⟨rfl,?_,(Keeps.refl _ _).setCell (.inl (by simp)) _⟩
 have:=heap_setCell_same w bf 6 _ _ (.int .i64 f.sup.mark) HF.out
 exact this
theorem fSuper_any {w:World} {bf b:Nat} {f:Fi} (hf:FileAt w bf b f) :
  Calls Tryz.prog 24 #[.pointer (some ⟨bf,0,none⟩)] w fun e w'=>e=.returned (supV f.sup)∧Keeps [] w w':=by
 have HR:=Lib.hid hf.range
 obtain ⟨w0,hw0⟩:∃ w0,w0=w.alloc (.cells #[.int .i64 0,.int .i64 0,.int .i64 0,.int .i64 0,.int .i64 0] 42 (0,0)):=⟨_,rfl⟩
 obtain ⟨g0,hg0⟩:∃ g,g=w.heap.size:=⟨_,rfl⟩
 have hz0:SupAt w0 g0 zSup:=by rw [hw0];exact heap_new_at hg0
 have hk0:Keeps [] w w0:=by rw [hw0];exact (Keeps.refl _ _).alloc _
 have hf0:=hf.keeps hk0 (by simp)
 have HR0:=Lib.hid hf0.range
 obtain ⟨st,ss⟩:=hz0.store f.sup
 have ST:=Lib.hid st
 have SS:=Lib.hid ss
 have HK:=Lib.hid (show Keeps [] w (w0.setCells g0 0 (supC f.sup)) from hk0.setCells (.inr (by omega)) _ _)
 have HW:=Lib.hid hw0
 have HG:=Lib.hid hg0
 have HSZ:=Lib.hid (show (Tryz.prog.info? 42).map (·.size)=some (supC f.sup).length by rw [size_super];rfl)
 clear hf hw0 hg0 hz0 hk0 hf0 st ss
 go_enter Tryz.func24,Tryz.ntmps24
 go_upto_region 1 with fail
 rw [← HW.out,← HG.out]
 go_wp2_with (first | (refine wpList_load_mid rfl 42 (.tmp 5) rfl bf 1 (by rfl) (supC f.sup) _ HR0.out Tryz.underlying42 rfl HSZ.out ?_) | (refine wl_store rfl 42 (.tmp 2) (.tmp 6) rfl ?_;refine ⟨_,ST.out,?_⟩;try simp only [zA,zB,zC,zD,zE,zF,zG,zH]))
 exact bodyPost_ret (results_sup rfl rfl SS.out) rfl ⟨rfl,HK.out⟩
open Go.RowKit
structure St where
 f:Fi
 C:Ca
def stagedC (l:List Ent):List Value:=l.flatMap fun e=>[.int .i64 e.kind,e.lv]
def fetchFn (bf:Nat):Value:=.func (.func 75) #[.pointer (some ⟨bf,0,none⟩)] #[]
def stC (bf c:Nat) (sv:Value):Array Value:=#[.pointer (some ⟨bf,0,none⟩),fetchFn bf,.pointer (some ⟨c,0,none⟩),sv]
structure StoreIn (w:World) (s b:Nat) (S:St) (bf c bm:Nat) (sv:Value):Prop where
 root:w.heap[s]?=some (.cells (stC bf c sv) 80 (0,0))
 file:FileAt w bf b S.f
 cache:CacheIn w c bm S.C
 staged:w.ownsRow 0 74 2 sv S.C.kept.length (stagedC S.C.kept)
 keys:∀ (i:Nat) (e:Ent),S.C.kept[i]?=some e→e.key=S.f.sup.mark+i
 old:∀ e∈S.C.clean,e.key < S.f.sup.mark
 mark:2≤S.f.sup.mark
 room:S.f.sup.mark+S.C.kept.length≤4096
 few:S.C.clean.length≤4096
 n1:s≠bf∧s ∉ caF c bm S.C∧bf ∉ caF c bm S.C∧sv.ownBlock≠some s∧sv.ownBlock≠some bf
 n2:∀ k∈caF c bm S.C,sv.ownBlock≠some k
def stF (s bf c bm:Nat) (sv:Value) (S:St):List Nat:=s :: bf :: (caF c bm S.C++sv.ownBlock.toList)
theorem mem_stF {s bf c bm:Nat} {sv:Value} {S:St} {k:Nat}:k∈stF s bf c bm sv S↔k=s∨k=bf∨k∈caF c bm S.C∨sv.ownBlock=some k:=by simp [stF]
theorem StoreIn.keep {w w':World} {s b bf c bm:Nat} {S:St} {sv:Value} (h:StoreIn w s b S bf c bm sv) (hb:∀ k∈stF s bf c bm sv S,w'.heap[k]?=w.heap[k]?):StoreIn w' s b S bf c bm sv :=
 ⟨(hb s (mem_stF.2 (.inl rfl))).trans h.root,(hb bf (mem_stF.2 (.inr (.inl rfl)))).trans h.file,h.cache.keep (fun k hk=>hb k (mem_stF.2 (.inr (.inr (.inl hk))))),ownsRow_keep h.staged (fun k hk=>hb k (mem_stF.2 (.inr (.inr (.inr hk))))),h.keys,h.old,h.mark,h.room,h.few,h.n1,h.n2⟩
theorem StoreIn.lt {w:World} {s b bf c bm:Nat} {S:St} {sv:Value} (h:StoreIn w s b S bf c bm sv):∀ k∈stF s bf c bm sv S,k < w.heap.size:=by
 intro k hk
 rcases mem_stF.1 hk with rfl | rfl | hk | hk
 ·exact lt_of_heap h.root
 ·exact lt_of_heap h.file
 ·exact h.cache.lt k hk
 ·exact (h.staged.lt k hk).2
theorem StoreIn.keeps {w w':World} {s b bf c bm:Nat} {S:St} {sv:Value} {F:List Nat} (h:StoreIn w s b S bf c bm sv) (hk:Keeps F w w') (hd:∀ k∈stF s bf c bm sv S,k ∉ F):StoreIn w' s b S bf c bm sv :=
 h.keep (fun k hk'=>hk.block k (h.lt k hk') (hd k hk'))
theorem StoreIn.cells {w:World} {s b bf c bm:Nat} {S:St} {sv:Value} (h:StoreIn w s b S bf c bm sv):w.cell? ⟨s,0,none⟩=some (.pointer (some ⟨bf,0,none⟩))∧w.cell? ⟨s,2,none⟩=some (.pointer (some ⟨c,0,none⟩))∧w.cell? ⟨s,3,none⟩=some sv :=
 ⟨cell_sets_of h.root rfl,cell_sets_of h.root rfl,cell_sets_of h.root rfl⟩
theorem StoreIn.form {w:World} {s b bf c bm:Nat} {S:St} {sv:Value} (h:StoreIn w s b S bf c bm sv):∃ a cp,sv=.slice a S.C.kept.length cp:=owns_slice h.staged
theorem sLive_any {w:World} {s b bf c bm:Nat} {S:St} {sv:Value} {d:D} {F:List Nat} (h:StoreIn w s b S bf c bm sv) (hd:DiskAt w b d F) :
  Calls Tryz.prog 20 #[.pointer (some ⟨s,0,none⟩)] w fun e w'=>e=.returned (.int .i64 (liveE d S.f))∧Keeps [] w w':=by
 have c0:=h.cells.1
 have CL:=Lib.hid (fLive_any h.file hd)
 clear h hd
 go_enter Tryz.func20,Tryz.ntmps20
 go_wp2_with fail
 refine CL.out.mono ?_
 rintro e w1 ⟨rfl,hk⟩
 have HK:=Lib.hid hk
 clear hk CL
 go_wp2_with fail
 go_ret
 exact ⟨rfl,HK.out⟩
theorem sSuper_any {w:World} {s b bf c bm:Nat} {S:St} {sv:Value} (h:StoreIn w s b S bf c bm sv) :
  Calls Tryz.prog 9 #[.pointer (some ⟨s,0,none⟩)] w fun e w'=>e=.returned (supV S.f.sup)∧Keeps [] w w':=by
 obtain ⟨w0,hw0⟩:∃ w0,w0=w.alloc (.cells #[.int .i64 0,.int .i64 0,.int .i64 0,.int .i64 0,.int .i64 0] 42 (0,0)):=⟨_,rfl⟩
 obtain ⟨g0,hg0⟩:∃ g,g=w.heap.size:=⟨_,rfl⟩
 have hz0:SupAt w0 g0 zSup:=by rw [hw0];exact heap_new_at hg0
 have hk0:Keeps [] w w0:=by rw [hw0];exact (Keeps.refl _ _).alloc _
 have h0:=h.keeps hk0 (by simp)
 have c0:=h0.cells.1
 have CS:=Lib.hid (fSuper_any h0.file)
 have HZ:=Lib.hid hz0
 have HK:=Lib.hid hk0
 have HW:=Lib.hid hw0
 have HG:=Lib.hid hg0
 clear h hw0 hg0 hz0 hk0 h0
 go_enter Tryz.func9,Tryz.ntmps9
 go_upto_region 1 with fail
 rw [← HW.out,← HG.out]
 go_wp2_with fail
 refine CS.out.mono ?_
 rintro e w1 ⟨rfl,hk1⟩
 obtain ⟨st,ss⟩:=(HZ.out.keeps hk1 (by simp)).store S.f.sup
 have ST:=Lib.hid st
 have SS:=Lib.hid ss
 have HK1:=Lib.hid (show Keeps [] w (w1.setCells g0 0 (supC S.f.sup)) from (HK.out.trans (G:=[]) hk1 (by simp)).setCells (.inr (Nat.le_of_eq HG.out.symm)) _ _)
 clear st ss hk1 CS
 go_wp2_with (first | (refine wl_store rfl 42 (.tmp 2) (.tmp 7) rfl ?_;refine ⟨_,ST.out,?_⟩;try simp only [zA,zB,zC,zD,zE,zF,zG,zH]))
 exact bodyPost_ret (results_sup rfl rfl SS.out) rfl ⟨rfl,HK1.out⟩
theorem field_mark (w:World) (s:Sup):(Instr.field 42 (supV s) 2).run Tryz.prog w=.ok (.int .i64 s.mark) w:=by kernel_rfl
theorem sNext_any {w:World} {s b bf c bm:Nat} {S:St} {sv:Value} (h:StoreIn w s b S bf c bm sv) :
  Calls Tryz.prog 15 #[.pointer (some ⟨s,0,none⟩)] w fun e w'=>e=.returned (.int .i64 (S.f.sup.mark+S.C.kept.length))∧Keeps [] w w':=by
 obtain ⟨a,cp,rfl⟩:=h.form
 obtain ⟨n,hn⟩:∃ n,n=S.C.kept.length:=⟨_,rfl⟩
 have hm:=h.mark
 have hr:=h.room
 have h3:=h.cells.2.2
 rw [← hn] at hr h3 ⊢
 have e1:IntKind.i64.wrap (S.f.sup.mark+(n:Int))=S.f.sup.mark+(n:Int):=IntWalk.i64_in _ (by omega)
 have CS:=Lib.hid (sSuper_any (w:=w.drew) (h.keeps ((Keeps.refl [] w).drew) (by simp)))
 have H3:=Lib.hid (fun (wx:World) (hk:Keeps [] w wx)=>(h.keeps hk (by simp)).cells.2.2)
 have HF:=field_mark
 rw [← hn] at H3
 clear h hn hr hm
 go_enter Tryz.func15,Tryz.ntmps15
 go_upto_region 1 with fail
 refine wp_region_held_drew (S:=(fun w'=>w'.cell? ⟨s,3,none⟩=some (.slice a n cp))) (by kernel_rfl) ?_ (fun hHeld=>?_)
 ·exact h3
 refine tk 0 ?_
 refine tk 3 ?_
 refine tk 4 ?_
 refine tk 5 ?_
 refine tk 6 ?_
 refine tk 7 ?_
 clear hHeld
 refine ac 1 fun K hK=>?_
 go_simp
 refine CS.out.mono ?_
 rintro e w1 ⟨rfl,hk⟩
 have HK:=Lib.hid (((Keeps.refl [] w).drew).trans (G:=[]) hk (by simp))
 clear hk
 refine hK.out _ _ ?_ (fun hHeld=>?_)
 ·exact H3.out w1 HK.out
 clear hK K
 try simp only [zA,zB,zC,zD,zE,zF,zG,zH]
 refine tk 2 ?_
 refine tk 8 ?_
 refine tk 9 ?_
 refine wpAnyH_done (by kernel_rfl) ?_ _
 go_wp2_with fail
 go_ret
 exact ⟨rfl,HK.out⟩
theorem sPages_any {w:World} {s b bf c bm:Nat} {S:St} {sv:Value} {d:D} {F:List Nat} (h:StoreIn w s b S bf c bm sv) (hd:DiskAt w b d F) :
  Calls Tryz.prog 21 #[.pointer (some ⟨s,0,none⟩)] w fun e w'=>e=.returned (.int .i64 d.n)∧w=w':=by
 have c0:=h.cells.1
 have f0:=h.file.cells.1
 obtain ⟨bp,d4,_⟩:=hd.dcells
 have CG:=Lib.hid (dPages_any d4)
 clear h hd
 go_enter Tryz.func21,Tryz.ntmps21
 go_wp2_with (go_at_call 41;refine CG.out.mono ?_;rintro e w' ⟨rfl,rfl⟩)
 go_ret
 exact ⟨rfl,rfl⟩
theorem sCopied_any {w:World} {v:Value} {l:List UInt8} (hv:BytesAt w v l) (hl:l.length≤1048576) :
  Calls Tryz.prog 22 #[v] w fun e w'=>∃ a cp,e=.returned (.slice a l.length cp)∧OwnB w' (.slice a l.length cp) l∧(∀ k,(Value.slice a l.length cp).ownBlock=some k→w.heap.size≤k)∧Keeps [] w w':=by
 obtain ⟨a0,c0,rfl,hc,hm⟩:=hv.form
 obtain ⟨v',w',hr,ho,hg⟩:=run_append_bytes (World.ownsRow_nil w w.heap.size 5 1) hv (by omega) (Nat.le_refl _) 36
 rw [Nat.zero_add,List.nil_append] at ho
 obtain ⟨a,cp,rfl⟩:=owns_slice ho
 have HR:=Lib.hid (run_builtin_append hr)
 have HO:=Lib.hid ho
 have HG:=Lib.hid hg
 clear hv hc hm hl hr ho hg
 go_enter Tryz.func22,Tryz.ntmps22
 go_wp2_with (first | (refine wl_builtin rfl .append #[.const (.slice none 0 0),.tmp 3] #[36,36] rfl ?_;simp only [List.map_toArray,List.map_cons,List.map_nil];refine ⟨_,_,HR.out,?_⟩;try simp only [zA,zB,zC,zD,zE,zF,zG,zH]))
 go_ret
 exact ⟨a,cp,rfl,ownsRow_base HO.out,fun k hk=>(World.ownsRow.lt HO.out k hk).1,(Keeps.refl [] w).grown HG.out (by simp [Value.ownBlock])⟩
open Go.RowKit
set_option maxRecDepth 100000 in
set_option maxHeartbeats 800000 in
theorem sNew_ok {w:World} {bf b:Nat} {f:Fi} {d:D} {F:List Nat} (room:Nat) (hf:FileAt w bf b f) (hd:DiskAt w b d F) (hl:liveE d f=0) (hr:room≤4096) (hm:2≤f.sup.mark) (hm2:f.sup.mark≤4096) :
  Calls Tryz.prog 46 #[.pointer (some ⟨bf,0,none⟩),.int .i64 room] w fun e w'=>∃ s c bm,e=.returned (.tuple #[.pointer (some ⟨s,0,none⟩),.int .i64 0])∧StoreIn w' s b ⟨⟨f.sup,f.sup.mark,f.mine⟩,⟨room,[],[],0,0,0⟩⟩ bf c bm (.slice none 0 0)∧Keeps [bf] w w'∧w.heap.size≤s∧w.heap.size≤c∧w.heap.size≤bm:=by
 have hmf:∀ (fn:Fn) (first cap:Array Value) (w:World),(Instr.makeFunc fn first cap).run Tryz.prog w=.ok (.func fn first cap) w:=fun _ _ _ _=>rfl
 have CL:=fLive_any hf hd
 rw [hl] at CL
 have CL':=Lib.hid CL
 have HF:=Lib.hid hf
 have HM:=Lib.hid (And.intro hm hm2)
 have HR:=Lib.hid hr
 have r0:(0:Int)≤(room:Int):=by omega
 have r1:(room:Int)≤4096:=by omega
 clear hf hd hl hr hm hm2 CL
 go_enter Tryz.func46,Tryz.ntmps46
 go_wp2_with fail
 refine CL'.out.mono ?_
 rintro e w1 ⟨rfl,hk1⟩
 have CF:=Lib.hid (fForget_any (HF.out.keeps hk1 (by simp)))
 have HK1:=Lib.hid hk1
 clear hk1 CL'
 go_wp2_with fail
 refine CF.out.mono ?_
 rintro e w2 ⟨rfl,hf2,hk2⟩
 have HF2:=Lib.hid hf2
 have HK2:=Lib.hid ((HK1.out.mono (G:=[bf]) (by simp)).trans (G:=[bf]) hk2 (fun _ h=>.inl h))
 have CN:=Lib.hid (caNew_any (w:=w2) room HR.out)
 clear hf2 hk2 CF HK1
 go_wp2_with fail
 refine CN.out.mono ?_
 rintro e w3 ⟨c,bm,rfl,hc3,hc,hbm,hk3⟩
 have HC3:=Lib.hid hc3
 have HF3:=Lib.hid (HF2.out.keeps hk3 (by simp))
 have HK3:=Lib.hid (HK2.out.trans (G:=[]) hk3 (by simp))
 have HC:=Lib.hid (And.intro hc hbm)
 have HBF:=Lib.hid (lt_of_heap HF2.out)
 clear hc3 hk3 hc hbm CN
 go_wp2_with fail
 go_ret2
 have hk4:Keeps [] w3 (w3.alloc (.cells (stC bf c (.slice none 0 0)) 80 (0,0))):=(Keeps.refl _ _).alloc _
 have hcl:=HC3.out.lt c (by simp [caF])
 have hbl:=HC3.out.lt bm (by simp [caF])
 have hsz:=HK2.out.size
 refine ⟨w3.heap.size,c,bm,rfl,⟨heap_new_at rfl,HF3.out.keeps hk4 (by simp),HC3.out.keep (fun j hj=>hk4.block j (HC3.out.lt j hj) (by simp)),World.ownsRow_nil _ _ _ _,by simp,by simp,HM.out.1,by simpa using HM.out.2,by simp,?_,by simp [Value.ownBlock]⟩,HK3.out.trans hk4 (by simp),HK3.out.size,by have:=HC.out.1;omega,by have:=HC.out.2;omega⟩
 have h1:=HC.out
 have h2:=HBF.out
 have h3:=lt_of_heap HF3.out
 refine ⟨by omega,?_,?_,by simp [Value.ownBlock],by simp [Value.ownBlock]⟩
 ·simp [caF,Ca.all];omega
 ·simp [caF,Ca.all];omega
theorem info_content:(Tryz.prog.info? 74).map (fun i=>(i.zero,i.size,i.bytes))=some (some (.agg #[.int .i64 0,.slice none 0 0]),2,32):=by kernel_rfl
theorem stagedC_snoc (l:List Ent) (e:Ent):stagedC (l++[e])=stagedC l++[.int .i64 e.kind,e.lv]:=by simp [stagedC]
open Go.RowKit
theorem content_ones (k:Int) (a:Option Addr) (n c:Nat):∀ v∈[Value.int .i64 k,.slice a n c],v.oneCell'=true:=by
 intro v hv
 simp only [List.mem_cons,List.not_mem_nil,or_false] at hv
 rcases hv with rfl | rfl <;> rfl
def St.stage (S:St) (e:Ent):St:={ S with C:={ S.C with kept:=S.C.kept++[e] } }
set_option maxRecDepth 100000 in
set_option maxHeartbeats 3200000 in
theorem sStage_3 {w:World} {s b bf c bm:Nat} {S:St} {sv v:Value} {d:D} {F:List Nat} {load:List UInt8} (h:StoreIn w s b S bf c bm sv) (hd:DiskAt w b d F) (hl:liveE d S.f=0) (hv:BytesAt w v load)
  (hll:load.length≤246) (hroom:S.f.sup.mark+S.C.kept.length < d.n) :
  Calls Tryz.prog 6 #[.pointer (some ⟨s,0,none⟩),.int .i64 3,v] w fun e w'=>e=.returned (.tuple #[.int .i64 (S.f.sup.mark+S.C.kept.length),.int .i64 0]) ∧
   ∃ eb lv sv',StoreIn w' s b (S.stage ⟨eb,S.f.sup.mark+S.C.kept.length,3,lv,load⟩) bf c bm sv'∧Keeps (stF s bf c bm sv S) w w'∧From w (stF s bf c bm sv S) (stF s bf c bm sv' (S.stage ⟨eb,S.f.sup.mark+S.C.kept.length,3,lv,load⟩)):=by
 obtain ⟨va,vc,rfl,hvc,hvm⟩:=hv.form
 obtain ⟨hn3,hn4,_⟩:=hd.ok
 obtain ⟨sa,scp,rfl⟩:=h.form
 obtain ⟨m,hm⟩:∃ m,m=S.C.kept.length:=⟨_,rfl⟩
 obtain ⟨N,hN⟩:∃ N:Int,N=S.f.sup.mark+S.C.kept.length:=⟨_,rfl⟩
 have CL:=sLive_any h hd
 rw [hl] at CL
 have CL':=Lib.hid CL
 have HH:=Lib.hid h
 have HD:=Lib.hid hd
 have HV:=Lib.hid hv
 have HN:=Lib.hid hN
 have HM:=Lib.hid hm
 have HLL:=Lib.hid hll
 rw [← hN] at hroom ⊢
 rw [← hm] at HH ⊢
 have ln:(load.length:Int)≤246:=by omega
 have q1:N < (d.n:Int):=hroom
 have HQ1:=Lib.hid q1
 have HN4:=Lib.hid hn4
 have hmark:=h.mark
 have N0:=Lib.hid (show 2≤N by omega)
 clear h hd hl hv hll hroom hN hm hn3 hn4 CL hmark hvm
 go_enter Tryz.func6,Tryz.ntmps6
 go_wp2_with fail
 refine CL'.out.mono ?_
 rintro e w1 ⟨rfl,hk1⟩
 have HH1:=Lib.hid (HH.out.keeps hk1 (by simp))
 have HK1:=Lib.hid hk1
 have CN:=sNext_any HH1.out
 rw [← HN.out] at CN
 have CN':=Lib.hid CN
 clear hk1 CL' CN
 go_upto_region 8 with fail
 clear ln
 go_wp2_with fail
 refine CN'.out.mono ?_
 rintro e w2 ⟨rfl,hk2⟩
 have HH2:=Lib.hid (HH1.out.keeps hk2 (by simp))
 have HD2:=Lib.hid ((HD.out.keeps HK1.out (by simp)).keeps hk2 (by simp))
 have HK2:=Lib.hid (HK1.out.trans (G:=[]) hk2 (by simp))
 have CP:=Lib.hid (sPages_any HH2.out HD2.out)
 have CC:=Lib.hid (sCopied_any (HV.out.keeps HK2.out (by simp)) (by have:=HLL.out;omega))
 clear hk2 CN' HH1 HK1
 go_upto_region 11 with (go_at_call 21;refine CP.out.mono ?_;rintro e w' ⟨rfl,rfl⟩)
 clear q1 CP
 go_wp2_with fail
 refine CC.out.mono ?_
 rintro e w3 ⟨la,lc,rfl,hlv,hln,hk3⟩
 obtain ⟨w4,hw4⟩:∃ x,x=w3.alloc (.cells #[.int .i64 3,.slice la load.length lc] 74 (0,0)):=⟨_,rfl⟩
 obtain ⟨gc,hgc⟩:∃ x,x=w3.heap.size:=⟨_,rfl⟩
 have hk34:Keeps [] w3 w4:=by rw [hw4];exact (Keeps.refl _ _).alloc _
 have hc4:w4.heap[gc]?=some (.cells #[.int .i64 3,.slice la load.length lc] 74 (0,0)):=by rw [hw4];exact heap_new_at hgc
 have HW4:=Lib.hid hw4
 have HGC:=Lib.hid hgc
 have HK4:=Lib.hid (HK2.out.trans (G:=[]) (hk3.trans (G:=[]) hk34 (by simp)) (by simp))
 have HH4:=Lib.hid ((HH2.out.keeps hk3 (by simp)).keeps hk34 (by simp))
 have HLV:=Lib.hid (show OwnB w4 (.slice la load.length lc) load from ownsRow_keep hlv (fun k hk=>hk34.block k (World.ownsRow.lt hlv k hk).2 (by simp)))
 have HLN:=Lib.hid (show ∀ k,(Value.slice la load.length lc).ownBlock=some k→w.heap.size≤k∧k < w4.heap.size from fun k hk=>⟨Nat.le_trans HK2.out.size (hln k hk),by have:=(World.ownsRow.lt hlv k hk).2;have:=hk34.size;omega⟩)
 have HC4:=Lib.hid hc4
 have HGW:=Lib.hid (show w.heap.size≤gc by rw [hgc];exact Nat.le_trans HK2.out.size hk3.size)
 clear hlv hln hk3 hw4 hgc hk34 hc4 CC
 go_upto_region 12 with fail
 rw [← HW4.out,← HGC.out]
 have S3:=Lib.hid (fun (wx:World) (hk:Keeps [] w4 wx)=>(HH4.out.keeps hk (by simp)).cells.2.2)
 have c3:=HH4.out.cells.2.2
 have sz2:(Tryz.prog.info? 74).map (·.size)=some 2:=size_content
 have hst:=HH4.out.staged
 rw [← HM.out] at hst
 have HST:=Lib.hid hst
 have f3:=frozen_of_row w4 s 3 _ _ HH4.out.root
 clear hst
 refine rl_start (fun w'=>w'.cell? ⟨s,3,none⟩=some (.slice sa m scp)∧w'.rangeAt gc 0 [.int .i64 3,.slice la load.length lc]) 10 (by kernel_rfl) ?_ (fun hHeld=>?_)
 ·exact ⟨c3,rangeAt_all HC4.out⟩
 refine rk 0 ?_
 refine rk 1 ?_
 refine rk 2 ?_
 refine rk 3 ?_
 refine rk 4 ?_
 refine rkb 5 rfl (yieldsIf_load_mid (by rfl) 74 (.tmp 10) rfl gc 0 rfl [.int .i64 3,.slice la load.length lc] _ (fun _ h=>h.2) Tryz.underlying74 rfl sz2) ?_
 clear hHeld
 refine rl_act (i:=6) (by kernel_rfl) rfl (fun K hK=>?_)
 (refine st_buildSlice rfl 75 1 #[(0,.tmp 44)] #[(0,.agg #[.int .i64 3,.slice la load.length lc])] rfl (by simp [Act.eval]) ?_;refine ⟨_,_,run_buildSlice_one _ Tryz.underlying75 info_content (cs:=#[.int .i64 3,.slice la load.length lc]) rfl (by omega) (by omega),?_⟩;try simp only [zA,zB,zC,zD,zE,zF,zG,zH])
 have ka:Keeps [] w4 (w4.drew.alloc (.cells #[.int .i64 3,.slice la load.length lc] 74 (0,0))):=((Keeps.refl [] w4).drew).alloc _
 have KA:=Lib.hid ka
 clear ka
 refine hK.out _ _ ?_ (fun hHeld=>?_)
 ·exact ⟨S3.out _ KA.out,rangeAt_of_heap (rangeAt_all HC4.out) (KA.out.block gc (lt_of_heap HC4.out) (by simp))⟩
 clear hK K
 try simp only [zA,zB,zC,zD,zE,zF,zG,zH]
 clear hHeld
 refine rl_act (i:=7) (by kernel_rfl) rfl (fun K hK=>?_)
 obtain ⟨i0,hi0,hz0,hz1,hz2⟩:=info_parts info_content
 refine step_append_lies _ rfl (.tmp 43) (.tmp 45) 75 rfl 0 74 i0 (.agg #[.int .i64 0,.slice none 0 0]) 2 32 Tryz.underlying75 hi0 hz0 hz1 hz2 rfl (by omega) (.slice sa m scp) m (stagedC S.C.kept) (by rfl) ((show w4.drew.ownsRow _ _ _ _ _ _ from HST.out).alloc _) ⟨w4.heap.size,0,none⟩ 1 1 [.int .i64 3,.slice la load.length lc] (by rfl) rfl
  (World.news_of_block (cs:=#[.int .i64 3,.slice la load.length lc]) (t:=74) (fr:=(0,0)) (heap_new_at rfl)) (content_ones _ _ _ _) (by omega) (by have:=HN.out;have:=HM.out;have:=HN4.out;have:=HD2.out.ok.2.1;have:=HH.out.room;have:=HH.out.mark;simp only [maxLen];omega) (by have:=HM.out;have:=HH.out.room;have:=HH.out.mark;omega) (by omega) (w4.heap.size+1) (by simp) ?_
 intro gq cap w5 hown5 hgr5 hat5 hlt5
 have HN1:=Lib.hid HH.out.n1
 have hs5:w5.heap[s]?=w4.heap[s]?:=by
  have hlt:=lt_of_heap HH4.out.root
  rw [hgr5.block s (by simp;omega) (fun e=>HN1.out.2.2.2.1 e.symm)]
  exact KA.out.block s hlt (by simp)
 have hgc5:w5.heap[gc]?=w4.heap[gc]?:=by
  have hlt:=lt_of_heap HC4.out
  have hb:=HH.out.lt
  rw [hgr5.block gc (by simp;omega) (fun e=>by have:=(HH.out.staged.lt gc e.symm).2;have:=HGW.out;omega)]
  exact KA.out.block gc hlt (by simp)
 have m3:w5.cell? ⟨s,3,none⟩=some (.slice sa m scp):=(cell_of_heap hs5 3).trans c3
 have g3:w5.frozen? ⟨s,3,none⟩=false:=frozen_of_row w5 s 3 _ _ (hs5.trans HH4.out.root)
 have HR5:=Lib.hid (rangeAt_of_heap (rangeAt_all HC4.out) hgc5)
 have HC5:=Lib.hid (hgc5.trans HC4.out)
 have HOWN5:=Lib.hid hown5
 have HGR5:=Lib.hid hgr5
 have HAT5:=Lib.hid hat5
 have HS5:=Lib.hid hs5
 clear hown5 hgr5 hat5 hlt5 hs5 hgc5 i0 hi0 hz0 hz1 hz2
 refine hK.out _ _ ?_ (fun hHeld=>?_)
 ·exact ⟨m3,HR5.out⟩
 clear hK K
 try simp only [zA,zB,zC,zD,zE,zF,zG,zH]
 refine rl_act (i:=8) (by kernel_rfl) rfl (fun K hK=>?_)
 go_simp
 refine hK.out _ _ ?_ (fun hHeld=>?_)
 ·exact hHeld
 clear hK K
 try simp only [zA,zB,zC,zD,zE,zF,zG,zH]
 refine rk 9 ?_
 refine rl_last (by kernel_rfl) (by kernel_rfl) rfl (fun K hK=>?_)
 go_simp
 refine hK.out _ _ ?_
 clear hK K
 try simp only [zA,zB,zC,zD,zE,zF,zG,zH]
 obtain ⟨sv',hsv⟩:∃ x,x=Value.slice (some ⟨gq,0,none⟩) (m+1) cap:=⟨_,rfl⟩
 obtain ⟨w6,hw6⟩:∃ x,x=w5.setCell ⟨s,3,none⟩ (.slice (some ⟨gq,0,none⟩) (m+1) cap):=⟨_,rfl⟩
 have hoth6:∀ k,k≠s→w6.heap[k]?=w5.heap[k]?:=fun k hk=>by rw [hw6];exact Below.heap_setCell w5 _ _ k hk
 have hs4:s < w.heap.size:=lt_of_heap HH.out.root
 have hfar:∀ k,k < w4.heap.size→(Value.slice sa m scp).ownBlock≠some k→k≠s→w6.heap[k]?=w4.heap[k]?:=fun k h1 h2 h3=>by
  rw [hoth6 k h3,HGR5.out.block k (by simp;omega) (fun e=>h2 e.symm)]
  exact KA.out.block k h1 (by simp)
 have hroot6:w6.heap[s]?=some (.cells (stC bf c sv') 80 (0,0)):=by
  rw [hw6,hsv]
  exact heap_setCell_same w5 s 3 _ _ _ (HS5.out.trans HH4.out.root)
 have hsize:w4.heap.size≤w6.heap.size:=by
  have h1:=HGR5.out.size
  have h2:w6.heap.size=w5.heap.size:=by rw [hw6];simp [World.setCell]
  simp at h1
  omega
 have hgqs:gq≠s:=by
  rcases HAT5.out with e | e
  ·exact fun e1=>HN1.out.2.2.2.1 (by rw [e,e1])
  ·have:=HK4.out.size;omega
 have hgqc:∀ k∈caF c bm S.C,gq≠k:=fun k hk e1=>by
  rcases HAT5.out with e | e
  ·exact HH.out.n2 k hk (by rw [e,e1])
  ·have:=HH.out.lt k (mem_stF.2 (.inr (.inr (.inl hk))));have:=HK4.out.size;omega
 have hcache6:CacheIn w6 c bm S.C:=HH4.out.cache.keep (fun k hk=>hfar k (HH4.out.cache.lt k hk) (HH.out.n2 k hk) (fun e=>HN1.out.2.1 (e ▸ hk)))
 have hfile6:FileAt w6 bf b S.f:=(hfar bf (lt_of_heap HH4.out.file) HN1.out.2.2.2.2 HN1.out.1.symm).trans HH4.out.file
 have hlv6:OwnB w6 (.slice la load.length lc) load:=ownsRow_keep HLV.out (fun k hk=>by
  obtain ⟨l1,l2⟩:=HLN.out k hk
  exact hfar k l2 (fun e=>by have:=(HH.out.staged.lt k e).2;omega) (by omega))
 have hgc6:w6.heap[gc]?=some (.cells #[.int .i64 3,.slice la load.length lc] 74 (0,0)):=(hoth6 gc (by have:=HGW.out;omega)).trans HC5.out
 have hown6:w6.ownsRow 0 74 2 sv' (m+1) (stagedC S.C.kept++[.int .i64 3,.slice la load.length lc]):=by
  rw [hsv]
  exact ownsRow_keep HOWN5.out (fun k hk=>by
   simp only [Value.ownBlock,Option.some.injEq] at hk
   subst hk
   exact hoth6 gq hgqs)
 have hall6:S.C.all.length < 900000:=by
  have h1:=HH.out.few
  have h2:=HH.out.room
  have h3:=HH.out.mark
  simp only [Ca.all,List.length_append]
  omega
 have hnew6:∀ e∈S.C.all,e.key≠N:=fun e he=>by
  have hN:=HN.out
  rcases List.mem_append.1 he with he | he
  ·have:=HH.out.old e he;omega
  ·obtain ⟨i,hi⟩:=List.mem_iff_getElem?.1 he
   have h1:=HH.out.keys i e hi
   have h2:=(List.getElem?_eq_some_iff.1 hi).1
   omega
 have hNb:2≤N∧N < 4096:=⟨N0.out,by have:=HN4.out;have:=HQ1.out;omega⟩
 have CH:=Lib.hid (caHold_new (w:=w6.drew) (kind:=3) (hcache6.keep (fun _ _=>rfl)) hnew6 (WalkArith.wf_i64 (by omega)) hlv6 hall6)
 have HROOT6:=Lib.hid hroot6
 have HFILE6:=Lib.hid hfile6
 have HOWN6:=Lib.hid hown6
 have HC6:=Lib.hid (show w6.cell? ⟨s,2,none⟩=some (.pointer (some ⟨c,0,none⟩)) from cell_sets_of hroot6 rfl)
 have HGC6:=Lib.hid (rangeAt_all hgc6)
 have HGCB:=Lib.hid (show gc ∉ caF c bm S.C∧s ∉ caF c bm S.C from ⟨fun hm=>by have:=HH.out.lt gc (mem_stF.2 (.inr (.inr (.inl hm))));have:=HGW.out;omega,HN1.out.2.1⟩)
 have HGQ:=Lib.hid (And.intro hgqs hgqc)
 have HNB:=Lib.hid hNb
 have HSV:=Lib.hid hsv
 have HSZ6:=Lib.hid hsize
 have hk6:Keeps (stF s bf c bm (.slice sa m scp) S) w w6:=by
  rw [hw6]
  have k1:Keeps (stF s bf c bm (.slice sa m scp) S) w (w4.drew.alloc (.cells #[.int .i64 3,.slice la load.length lc] 74 (0,0))):=(HK4.out.trans (G:=[]) KA.out (by simp)).mono (by simp)
  have k2:Keeps (stF s bf c bm (.slice sa m scp) S) w w5:=k1.grown HGR5.out (fun k hk=>.inl (mem_stF.2 (.inr (.inr (.inr hk)))))
  exact k2.setCell (p:=⟨s,3,none⟩) (.inl (mem_stF.2 (.inl rfl))) _
 have HK6:=Lib.hid hk6
 have HLV6:=Lib.hid hlv6
 rw [show w5.setCell ⟨s,3,none⟩ (.slice (some ⟨gq,0,none⟩) (m+1) cap)=w6 from hw6.symm]
 clear hw6 hoth6 hs4 hfar hroot6 hsize hgqs hgqc hcache6 hfile6 hlv6 hgc6 hown6 hall6 hnew6 hNb hsv hk6 hHeld c3 f3 m3 g3
 go_upto_region 13 with fail
 refine wp_region_held_drew (S:=(fun w'=>w'.cell? ⟨s,2,none⟩=some (.pointer (some ⟨c,0,none⟩))∧w'.rangeAt gc 0 [.int .i64 3,.slice la load.length lc])) (by kernel_rfl) ?_ (fun hHeld=>?_)
 ·exact ⟨HC6.out,HGC6.out⟩
 refine tk 0 ?_
 refine tk 1 ?_
 refine tk 2 ?_
 refine tk 3 ?_
 refine tk 4 ?_
 refine tkb 5 rfl (yieldsIf_load_mid (by rfl) 74 (.tmp 10) rfl gc 0 rfl [.int .i64 3,.slice la load.length lc] _ (fun _ h=>h.2) Tryz.underlying74 rfl sz2) ?_
 clear hHeld
 refine ac 6 fun K hK=>?_
 go_simp
 refine CH.out.mono ?_
 rintro e w7 ⟨rfl,eb,hc7,heb,hk7⟩
 have hk67:Keeps (caF c bm S.C) w6 w7:=⟨hk7.os,hk7.tape,hk7.output,hk7.size,hk7.block⟩
 have HK7:=Lib.hid hk67
 have HC7:=Lib.hid hc7
 have HEB:=Lib.hid (show w6.heap.size≤eb from heb)
 clear hk7 hk67 hc7 heb CH
 refine hK.out _ _ ?_ (fun hHeld=>?_)
 ·have hs7:=HK7.out.block s (lt_of_heap HROOT6.out) HGCB.out.2
  refine ⟨(cell_of_heap hs7 2).trans HC6.out,rangeAt_of_heap HGC6.out (HK7.out.block gc ?_ HGCB.out.1)⟩
  have:=lt_of_heap HC4.out
  have:=HSZ6.out
  omega
 clear hK K
 try simp only [zA,zB,zC,zD,zE,zF,zG,zH]
 refine wpAnyH_done (by kernel_rfl) ?_ _
 clear hHeld
 go_wp2_with fail
 go_ret2
 refine ⟨rfl,eb,_,sv',⟨?_,?_,HC7.out,?_,?_,HH.out.old,HH.out.mark,?_,HH.out.few,?_,?_⟩,?_,?_⟩
 ·exact (HK7.out.block s (lt_of_heap HROOT6.out) HGCB.out.2).trans HROOT6.out
 ·exact (HK7.out.block bf (lt_of_heap HFILE6.out) HN1.out.2.2.1).trans HFILE6.out
 ·have e1:(S.stage ⟨eb,N,3,.slice la load.length lc,load⟩).C.kept=S.C.kept++[⟨eb,N,3,.slice la load.length lc,load⟩]:=rfl
  rw [e1,stagedC_snoc,List.length_append,← HM.out]
  refine ownsRow_keep HOWN6.out (fun k hk=>HK7.out.block k (HOWN6.out.lt k hk).2 (fun hm=>?_))
  rw [HSV.out] at hk
  simp only [Value.ownBlock,Option.some.injEq] at hk
  exact HGQ.out.2 k hm hk
 ·intro i e hi
  have e1:(S.stage ⟨eb,N,3,.slice la load.length lc,load⟩).C.kept=S.C.kept++[⟨eb,N,3,.slice la load.length lc,load⟩]:=rfl
  rw [e1] at hi
  by_cases hlt:i < S.C.kept.length
  ·rw [List.getElem?_append_left hlt] at hi
   exact HH.out.keys i e hi
  ·rw [List.getElem?_append_right (by omega)] at hi
   have h0:i - S.C.kept.length=0:=by
    have:=(List.getElem?_eq_some_iff.1 hi).1
    simp at this
    omega
   rw [h0] at hi
   simp only [List.getElem?_cons_zero,Option.some.injEq] at hi
   subst hi
   show N=S.f.sup.mark+i
   rw [HN.out]
   omega
 ·have e1:(S.stage ⟨eb,N,3,.slice la load.length lc,load⟩).C.kept=S.C.kept++[⟨eb,N,3,.slice la load.length lc,load⟩]:=rfl
  rw [e1,List.length_append]
  have h1:=HN.out
  have h2:=HNB.out
  show S.f.sup.mark+((S.C.kept.length+1:Nat):Int)≤4096
  omega
 ·have hsw:s < w.heap.size:=lt_of_heap HH.out.root
  have hbw:bf < w.heap.size:=lt_of_heap HH.out.file
  have hle:w.heap.size≤eb:=Nat.le_trans (Nat.le_trans HK4.out.size HSZ6.out) HEB.out
  have hmem:∀ k,k∈caF c bm (S.stage ⟨eb,N,3,.slice la load.length lc,load⟩).C→k∈caF c bm S.C∨w.heap.size≤k:=fun k hk=>by
   have e1:(S.stage ⟨eb,N,3,.slice la load.length lc,load⟩).C.all=S.C.all++[⟨eb,N,3,.slice la load.length lc,load⟩]:=by simp [St.stage,Ca.all]
   rcases mem_caF.1 hk with rfl | rfl | ⟨e,he,rfl⟩ | ⟨e,he,hv⟩
   ·exact .inl (mem_caF.2 (.inl rfl))
   ·exact .inl (mem_caF.2 (.inr (.inl rfl)))
   ·rw [e1] at he
    rcases List.mem_append.1 he with he | he
    ·exact .inl (mem_caF.2 (.inr (.inr (.inl ⟨e,he,rfl⟩))))
    ·obtain rfl:e=⟨eb,N,3,.slice la load.length lc,load⟩:=by simpa using he
     exact .inr hle
   ·rw [e1] at he
    rcases List.mem_append.1 he with he | he
    ·exact .inl (mem_caF.2 (.inr (.inr (.inr ⟨e,he,hv⟩))))
    ·obtain rfl:e=⟨eb,N,3,.slice la load.length lc,load⟩:=by simpa using he
     exact .inr (HLN.out k hv).1
  refine ⟨HN1.out.1,fun hm=>(hmem s hm).elim HN1.out.2.1 (fun h=>by omega),fun hm=>(hmem bf hm).elim HN1.out.2.2.1 (fun h=>by omega),?_,?_⟩
  ·rw [HSV.out]
   simp only [Value.ownBlock,ne_eq,Option.some.injEq]
   exact HGQ.out.1
  ·rw [HSV.out]
   simp only [Value.ownBlock,ne_eq,Option.some.injEq]
   rcases HAT5.out with e | e
   ·exact fun e1=>HN1.out.2.2.2.2 (by rw [e,e1])
   ·have:=HK4.out.size;omega
 ·intro k hk e0
  rw [HSV.out] at e0
  simp only [Value.ownBlock,Option.some.injEq] at e0
  have e1:(S.stage ⟨eb,N,3,.slice la load.length lc,load⟩).C.all=S.C.all++[⟨eb,N,3,.slice la load.length lc,load⟩]:=by simp [St.stage,Ca.all]
  have hg6:=(HOWN6.out.lt gq (by rw [HSV.out];rfl)).2
  rcases mem_caF.1 hk with h | h | ⟨e,he,h⟩ | ⟨e,he,hv⟩
  ·exact HGQ.out.2 k (mem_caF.2 (.inl h)) e0
  ·exact HGQ.out.2 k (mem_caF.2 (.inr (.inl h))) e0
  ·rw [e1] at he
   rcases List.mem_append.1 he with he | he
   ·exact HGQ.out.2 k (mem_caF.2 (.inr (.inr (.inl ⟨e,he,h⟩)))) e0
   ·obtain rfl:e=⟨eb,N,3,.slice la load.length lc,load⟩:=by simpa using he
    have h:eb=k:=h
    have:=HEB.out
    omega
  ·rw [e1] at he
   rcases List.mem_append.1 he with he | he
   ·exact HGQ.out.2 k (mem_caF.2 (.inr (.inr (.inr ⟨e,he,hv⟩)))) e0
   ·obtain rfl:e=⟨eb,N,3,.slice la load.length lc,load⟩:=by simpa using he
    obtain ⟨l1,l2⟩:=HLN.out k hv
    rcases HAT5.out with e2 | e2
    ·have:=(HH.out.staged.lt gq e2).2;omega
    ·omega
 ·exact HK6.out.trans (G:=caF c bm S.C) HK7.out (fun k hk=>.inl (mem_stF.2 (.inr (.inr (.inl hk)))))
 ·intro k hk
  have hle:w.heap.size≤eb:=Nat.le_trans (Nat.le_trans HK4.out.size HSZ6.out) HEB.out
  have e1:(S.stage ⟨eb,N,3,.slice la load.length lc,load⟩).C.all=S.C.all++[⟨eb,N,3,.slice la load.length lc,load⟩]:=by simp [St.stage,Ca.all]
  rcases mem_stF.1 hk with h | h | h | h
  ·exact .inl (mem_stF.2 (.inl h))
  ·exact .inl (mem_stF.2 (.inr (.inl h)))
  ·rcases mem_caF.1 h with h | h | ⟨e,he,h⟩ | ⟨e,he,hv⟩
   ·exact .inl (mem_stF.2 (.inr (.inr (.inl (mem_caF.2 (.inl h))))))
   ·exact .inl (mem_stF.2 (.inr (.inr (.inl (mem_caF.2 (.inr (.inl h)))))))
   ·rw [e1] at he
    rcases List.mem_append.1 he with he | he
    ·exact .inl (mem_stF.2 (.inr (.inr (.inl (mem_caF.2 (.inr (.inr (.inl ⟨e,he,h⟩))))))))
    ·obtain rfl:e=⟨eb,N,3,.slice la load.length lc,load⟩:=by simpa using he
     exact .inr (by have h:eb=k:=h;omega)
   ·rw [e1] at he
    rcases List.mem_append.1 he with he | he
    ·exact .inl (mem_stF.2 (.inr (.inr (.inl (mem_caF.2 (.inr (.inr (.inr ⟨e,he,hv⟩))))))))
    ·obtain rfl:e=⟨eb,N,3,.slice la load.length lc,load⟩:=by simpa using he
     exact .inr (HLN.out k hv).1
  ·rw [HSV.out] at h
   simp only [Value.ownBlock,Option.some.injEq] at h
   rcases HAT5.out with e2 | e2
   ·exact .inl (mem_stF.2 (.inr (.inr (.inr (by rw [e2,h])))))
   ·exact .inr (by have:=HK4.out.size;omega)
open Go.RowKit
theorem StoreIn.hit {w w':World} {s b bf c bm:Nat} {S:St} {sv:Value} (h:StoreIn w s b S bf c bm sv) (x:Int) (hc:CacheIn w' c bm { S.C with hits:=x }) (hk:Keeps [c] w w'):StoreIn w' s b { S with C:={ S.C with hits:=x } } bf c bm sv:=by
 have hcm:c∈caF c bm S.C:=mem_caF.2 (.inl rfl)
 have ns:s≠c:=fun e=>h.n1.2.1 (e ▸ hcm)
 have nb:bf≠c:=fun e=>h.n1.2.2.1 (e ▸ hcm)
 exact ⟨(hk.block s (lt_of_heap h.root) (by simpa using ns)).trans h.root,(hk.block bf (lt_of_heap h.file) (by simpa using nb)).trans h.file,hc,
  ownsRow_keep h.staged (fun k hk'=>hk.block k (h.staged.lt k hk').2 (by simp only [List.mem_singleton];exact fun e=>h.n2 c hcm (e ▸ hk'))),h.keys,h.old,h.mark,h.room,h.few,h.n1,h.n2⟩
set_option maxRecDepth 100000 in
set_option maxHeartbeats 1600000 in
theorem sLoad_staged {w:World} {s b bf c bm:Nat} {S:St} {sv:Value} {d:D} {F:List Nat} {e:Ent} (h:StoreIn w s b S bf c bm sv) (hd:DiskAt w b d F) (hl:liveE d S.f=0) (he:e∈S.C.kept) (hll:e.load.length≤246) :
  Calls Tryz.prog 79 #[.pointer (some ⟨s,0,none⟩),.int .i64 e.key] w fun r w'=>∃ a cp,r=.returned (.tuple #[.int .i64 e.kind,.slice a e.load.length cp,.int .i64 0])∧OwnB w' (.slice a e.load.length cp) e.load∧(∀ k,(Value.slice a e.load.length cp).ownBlock=some k→w.heap.size≤k) ∧
   StoreIn w' s b { S with C:={ S.C with hits:=wrap64 (S.C.hits+1) } } bf c bm sv∧Keeps [c] w w':=by
 have hall:e∈S.C.all:=List.mem_append_right _ he
 obtain ⟨i,hi⟩:=List.mem_iff_getElem?.1 he
 have hkey:=h.keys i e hi
 have hil:=(List.getElem?_eq_some_iff.1 hi).1
 have hmark:=h.mark
 obtain ⟨N,hN⟩:∃ N:Int,N=S.f.sup.mark+S.C.kept.length:=⟨_,rfl⟩
 have q1:¬ e.key < 2:=by omega
 have q2:¬ N≤e.key:=by omega
 obtain ⟨la,lc,hlv⟩:=owns_slice (h.cache.loads e hall)
 have CL:=sLive_any h hd
 rw [hl] at CL
 have CL':=Lib.hid CL
 have HH:=Lib.hid h
 have HN:=Lib.hid hN
 have HE:=Lib.hid he
 have HALL:=Lib.hid hall
 have HLV:=Lib.hid hlv
 have HLL:=Lib.hid hll
 clear h hd hl he hll hall hi hkey hil hmark hN hlv CL
 go_enter Tryz.func79,Tryz.ntmps79
 go_wp2_with fail
 refine CL'.out.mono ?_
 rintro r w1 ⟨rfl,hk1⟩
 have HH1:=Lib.hid (HH.out.keeps hk1 (by simp))
 have HK1:=Lib.hid hk1
 have CN:=sNext_any HH1.out
 rw [← HN.out] at CN
 have CN':=Lib.hid CN
 clear hk1 CL' CN
 go_wp2_with fail
 refine CN'.out.mono ?_
 rintro r w2 ⟨rfl,hk2⟩
 have HH2:=Lib.hid (HH1.out.keeps hk2 (by simp))
 have HK2:=Lib.hid (HK1.out.trans (G:=[]) hk2 (by simp))
 have c2:=HH2.out.cells.2.1
 have CG:=Lib.hid (caGet_held HH2.out.cache HE.out)
 clear hk2 CN' HH1 HK1
 go_wp2_with fail
 refine CG.out.mono ?_
 rintro r w3 ⟨rfl,hc3,hk3⟩
 have HH3:=Lib.hid (HH2.out.hit _ hc3 hk3)
 obtain ⟨w4,hw4⟩:∃ x,x=w3.alloc (.cells #[.int .i64 e.kind,e.lv] 74 (0,0)):=⟨_,rfl⟩
 obtain ⟨gc,hgc⟩:∃ x,x=w3.heap.size:=⟨_,rfl⟩
 have hst4:=run_storeAt_new (P:=Tryz.prog) w3 74 #[.int .i64 0,.slice none 0 0] #[.int .i64 e.kind,e.lv] (by rw [size_content];rfl) rfl (by rw [HLV.out];exact all_oneCell_toArray (content_ones _ _ _ _))
 have hk34:Keeps [] w3 w4:=by rw [hw4];exact (Keeps.refl _ _).alloc _
 have hc4:w4.heap[gc]?=some (.cells #[.int .i64 e.kind,e.lv] 74 (0,0)):=by rw [hw4];exact heap_new_at hgc
 have HH4:=Lib.hid (HH3.out.keeps hk34 (by simp))
 have hload4:=HH4.out.cache.loads e HALL.out
 have CC:=Lib.hid (sCopied_any (w:=w4.drew) (l:=e.load) (v:=e.lv) (ownB_bytes (ownsRow_keep hload4 (fun _ _=>rfl))) (by have:=HLL.out;omega))
 have k4:w4.cell? ⟨gc,0,none⟩=some (.int .i64 e.kind):=cell_sets_of hc4 rfl
 have k5:w4.cell? ⟨gc,1,none⟩=some e.lv:=cell_sets_of hc4 rfl
 have HST4:=Lib.hid hst4
 have HW4:=Lib.hid hw4
 have HGC:=Lib.hid hgc
 have HC4:=Lib.hid hc4
 have HK4:=Lib.hid (((HK2.out.mono (G:=[c]) (by simp)).trans (G:=[c]) hk3 (fun _ h=>.inl h)).trans (G:=[]) hk34 (by simp))
 clear hc3 hk3 hw4 hgc hst4 hk34 hc4 hload4 c2 CG
 go_upto_region 8 with (first | (refine wl_store rfl 74 (.tmp 8) (.tmp 33) rfl ?_;refine ⟨_,HST4.out,?_⟩;try simp only [zA,zB,zC,zD,zE,zF,zG,zH]))
 rw [← HW4.out,← HGC.out]
 refine wp_region_held_drew (S:=(fun w'=>w'.cell? ⟨gc,0,none⟩=some (.int .i64 e.kind)∧w'.cell? ⟨gc,1,none⟩=some e.lv)) (by kernel_rfl) ?_ (fun hHeld=>?_)
 ·exact ⟨k4,k5⟩
 refine tk 0 ?_
 refine tk 1 ?_
 refine tk 2 ?_
 refine tk 3 ?_
 clear hHeld k4 k5
 refine ac 4 fun K hK=>?_
 go_simp
 refine CC.out.mono ?_
 rintro r w5 ⟨a,cp,rfl,ho,hn,hk5⟩
 have hk45:Keeps [] w4 w5:=((Keeps.refl [] w4).drew).trans (G:=[]) hk5 (by simp)
 have HO:=Lib.hid ho
 have HNW:=Lib.hid (fun k hk=>Nat.le_trans HK4.out.size (hn k hk))
 have HK5:=Lib.hid hk45
 clear ho hn hk5 hk45
 refine hK.out _ _ ?_ (fun hHeld=>?_)
 ·have hb:=HK5.out.block gc (lt_of_heap HC4.out) (by simp)
  exact ⟨(cell_of_heap hb 0).trans (cell_sets_of HC4.out rfl),(cell_of_heap hb 1).trans (cell_sets_of HC4.out rfl)⟩
 clear hK K
 try simp only [zA,zB,zC,zD,zE,zF,zG,zH]
 refine tk 5 ?_
 refine tk 6 ?_
 refine tk 7 ?_
 refine wpAnyH_done (by kernel_rfl) ?_ _
 clear hHeld
 go_wp2_with fail
 go_ret3
 exact ⟨a,cp,rfl,HO.out,HNW.out,HH4.out.keeps HK5.out (by simp),HK4.out.trans (G:=[]) HK5.out (by simp)⟩
open Go.RowKit
def pageOf (img:List UInt8) (p:Nat):List UInt8:=(img.drop (p * 256)).take 256
theorem pageOf_set {img l:List UInt8} {p:Nat} (hl:l.length=256) (h:p * 256+256≤img.length):pageOf (setPage img p l) p=l:=by
 unfold pageOf setPage
 rw [List.append_assoc,List.drop_left' (by rw [List.length_take];omega),List.take_left' hl]
theorem pageOf_other {img l:List UInt8} {p k:Nat} (hl:l.length=256) (hk:k * 256+256≤img.length) (hne:p≠k):pageOf (setPage img k l) p=pageOf img p:=by
 unfold pageOf
 apply List.ext_getElem?
 intro j
 rw [List.getElem?_take,List.getElem?_take]
 split
 ·rename_i hj
  rw [List.getElem?_drop,List.getElem?_drop]
  unfold setPage
  by_cases h1:p < k
  ·rw [List.append_assoc,List.getElem?_append_left (by rw [List.length_take];omega),List.getElem?_take_of_lt (by omega)]
  ·have hlen:(img.take (k * 256)++l).length=k * 256+256:=by rw [List.length_append,List.length_take,hl];omega
   rw [List.getElem?_append_right (by rw [hlen];omega),hlen,List.getElem?_drop,show k * 256+l.length+(p * 256+j - (k * 256+256))=p * 256+j by omega]
 ·rfl
theorem read_empty {d:D} (h:d.q=[]) (p:Nat):d.read p=pageOf d.img p:=by
 unfold D.read
 rw [h]
 rfl
theorem new_calm (n:Nat):(D.new n).calm:=⟨rfl,rfl⟩
theorem pageOf_zero (N p:Nat) {k:Nat} (hk:k=256) (h:p * k+k≤N):((List.replicate N (0:UInt8)).drop (p * k)).take k=List.replicate k 0:=by
 rw [List.drop_replicate,List.take_replicate,Nat.min_eq_left (by omega)]
theorem new_read {n p:Nat} (hp:p < n):(D.new n).read p=List.replicate 256 0:=by
 rw [read_empty rfl]
 exact pageOf_zero (256 * n) p rfl (by omega)
theorem new_blank {n:Nat} (hn:3≤n):chooseL ((D.new n).read 0) ((D.new n).read 1)=(55,zSup):=by
 rw [new_read (by omega),new_read (by omega),choose_blank]
theorem fmt_new {n width:Nat} (hn:3≤n) (hn2:n≤4096) (h1:1≤width) (h2:width≤32) :
  (fmtD (D.new n) width).calm∧(fmtD (D.new n) width).q=[]∧(fmtD (D.new n) width).n=n∧chooseL ((fmtD (D.new n) width).read 0) ((fmtD (D.new n) width).read 1)=(0,supB width n)∧(fmtD (D.new n) width).epoch=0:=by
 obtain ⟨d1,hd1⟩:∃ d1:D,d1={ D.new n with reads:=wrap64 (wrap64 ((D.new n).reads+1)+1) }:=⟨_,rfl⟩
 have c1:d1.calm:=by rw [hd1];exact ⟨rfl,rfl⟩
 have q1:d1.q=[]:=by rw [hd1];rfl
 have i1:d1.img.length=256 * n:=by rw [hd1];simp [D.new]
 have n1:d1.n=n:=by rw [hd1];rfl
 have p1:d1.epoch=0:=by rw [hd1];rfl
 have hsa:slot (supA width n)=0:=rfl
 have hsb:slot (supB width n)=1:=rfl
 obtain ⟨xa,hxa⟩:∃ x,x=supL (supA width n):=⟨_,rfl⟩
 obtain ⟨xb,hxb⟩:∃ x,x=supL (supB width n):=⟨_,rfl⟩
 have la:xa.length=256:=by rw [hxa,supL_length]
 have lb:xb.length=256:=by rw [hxb,supL_length]
 have e:fmtD (D.new n) width=(((d1.write 0 xa).sync).write 1 xb).sync:=by
  unfold fmtD
  rw [← hd1,hxa,hxb]
  show stepD d1 (supA width n) (supB width n) 4=_
  rw [show stepD d1 (supA width n) (supB width n) 4=(((d1.write (slot (supA width n)) (supL (supA width n))).sync).write (slot (supB width n)) (supL (supB width n))).sync from rfl,hsa,hsb]
 obtain ⟨c2,e2⟩:=c1.write 0 xa
 obtain ⟨c3,e3⟩:=c2.sync
 obtain ⟨c4,e4⟩:=c3.write 1 xb
 obtain ⟨c5,e5⟩:=c4.sync
 have hq:(((d1.write 0 xa).sync).write 1 xb).sync.q=[]:=by rw [e5]
 have hi:(((d1.write 0 xa).sync).write 1 xb).sync.img=setPage (setPage d1.img 0 xa) 1 xb:=by
  rw [e5]
  dsimp only
  rw [e4]
  dsimp only
  rw [e3]
  dsimp only
  rw [e2]
  dsimp only
  rw [q1]
  rfl
 have hn':(((d1.write 0 xa).sync).write 1 xb).sync.n=n:=by
  rw [e5]
  dsimp only
  rw [e4]
  dsimp only
  rw [e3]
  dsimp only
  rw [e2]
  exact n1
 have hp':(((d1.write 0 xa).sync).write 1 xb).sync.epoch=0:=by
  rw [e5]
  dsimp only
  rw [e4]
  dsimp only
  rw [e3]
  dsimp only
  rw [e2]
  exact p1
 rw [e]
 refine ⟨c5,hq,hn',?_,hp'⟩
 have l1:(setPage d1.img 0 xa).length=256 * n:=by rw [setPage_length (by omega),i1]
 rw [read_empty hq,read_empty hq,hi,pageOf_other lb (by omega) (by omega),pageOf_set la (by omega),pageOf_set lb (by omega),hxa,hxb]
 exact (choose_two (supA_valid h1 h2 hn hn2) (supB_valid h1 h2 hn hn2) rfl rfl rfl (Int.le_refl _)).1 rfl
open Go.RowKit
set_option maxRecDepth 100000 in
theorem cFits_any {w:World} (width room:Int):Calls Tryz.prog 4 #[.int .i64 width,.int .i64 room] w fun e w'=>e=.returned (.bool (decide (1≤width∧width≤32∧1≤room∧room≤4096)))∧w=w':=by
 obtain ⟨b,hb⟩:∃ b,b=decide (1≤width∧width≤32∧1≤room∧room≤4096):=⟨_,rfl⟩
 rw [← hb]
 have HB:=Lib.hid hb
 clear hb
 by_cases c1:1≤width
 rotate_left 1
 ·have hv:=Lib.hid (show b=false by rw [HB.out];simp [c1])
  go_enter Tryz.func4,Tryz.ntmps4
  go_wp2_with fail
  go_ret
  exact ⟨by rw [hv.out];rfl,rfl⟩
 by_cases c2:width≤32
 rotate_left 1
 ·have hv:=Lib.hid (show b=false by rw [HB.out];simp [c1,c2])
  go_enter Tryz.func4,Tryz.ntmps4
  go_wp2_with fail
  go_ret
  exact ⟨by rw [hv.out];rfl,rfl⟩
 by_cases c3:1≤room
 rotate_left 1
 ·have hv:=Lib.hid (show b=false by rw [HB.out];simp [c1,c2,c3])
  go_enter Tryz.func4,Tryz.ntmps4
  go_wp2_with fail
  go_ret
  exact ⟨by rw [hv.out];rfl,rfl⟩
 by_cases c4:room≤4096
 ·have hv:=Lib.hid (show b=true by rw [HB.out];simp [c1,c2,c3,c4])
  go_enter Tryz.func4,Tryz.ntmps4
  go_wp2_with fail
  go_ret
  exact ⟨by rw [hv.out];rfl,rfl⟩
 ·have hv:=Lib.hid (show b=false by rw [HB.out];simp [c1,c2,c3,c4])
  go_enter Tryz.func4,Tryz.ntmps4
  go_wp2_with fail
  go_ret
  exact ⟨by rw [hv.out];rfl,rfl⟩
structure StoreOn (w:World) (s b:Nat) (S:St) (d:D) (F G:List Nat):Prop where
 disk:DiskAt w b d F
 store:∃ bf c bm sv,StoreIn w s b S bf c bm sv∧G=stF s bf c bm sv S
 apart:∀ k∈F,k ∉ G
set_option maxRecDepth 100000 in
set_option maxHeartbeats 800000 in
theorem cOpened_ok {w:World} {b:Nat} {d:D} {F:List Nat} {s:Sup} (room:Nat) (hd:DiskAt w b d F) (hp:d.dead=false) (hch:chooseL (d.read 0) (d.read 1)=(0,s)) (hpg:s.pages=d.n) (hr:room≤4096) (hm:2≤s.mark) (hm2:s.mark≤4096) :
  Calls Tryz.prog 19 #[.pointer (some ⟨b,0,none⟩),.int .i64 room] w fun e w'=>∃ st F' G,e=.returned (.pointer (some ⟨st,0,none⟩))∧StoreOn w' st b ⟨⟨s,s.mark,wrap64 (d.epoch+1)⟩,⟨room,[],[],0,0,0⟩⟩ (openD d) F' G∧From w F F'∧(∀ k∈G,w.heap.size≤k)∧Keeps F w w':=by
 have CO:=Lib.hid (open_ok hd hp hch hpg)
 have HP:=Lib.hid hp
 have HR:=Lib.hid hr
 have HM:=Lib.hid (And.intro hm hm2)
 clear hd hp hch hpg hr hm hm2
 go_enter Tryz.func19,Tryz.ntmps19
 go_wp2_with fail
 refine CO.out.mono ?_
 rintro e w1 ⟨bf,F1,rfl,hf1,hd1,hfr,hk1,hbf,hnf⟩
 have CN:=Lib.hid (sNew_ok room hf1 hd1 (by unfold liveE;rw [if_neg (by intro h;exact h rfl)];rw [if_neg (by show ¬ d.dead=true;rw [HP.out];simp)]) HR.out HM.out.1 HM.out.2)
 have HD1:=Lib.hid hd1
 have HFR:=Lib.hid hfr
 have HK1:=Lib.hid hk1
 have HBF:=Lib.hid (And.intro hbf hnf)
 clear hf1 hd1 hfr hk1 hbf hnf CO
 go_wp2_with fail
 refine CN.out.mono ?_
 rintro e w2 ⟨st,c,bm,rfl,hst,hk2,hs,hc,hbm⟩
 have HST:=Lib.hid hst
 have HK2:=Lib.hid hk2
 have HS:=Lib.hid (And.intro hs (And.intro hc hbm))
 clear hst hk2 hs hc hbm CN
 go_wp2_with fail
 go_ret
 have hG:∀ k∈stF st bf c bm (.slice none 0 0) (⟨⟨s,s.mark,wrap64 (d.epoch+1)⟩,⟨room,[],[],0,0,0⟩⟩:St),k=bf∨w1.heap.size≤k:=fun k hk=>by
  rcases mem_stF.1 hk with rfl | rfl | hk | hk
  ·exact .inr HS.out.1
  ·exact .inl rfl
  ·rcases mem_caF.1 hk with rfl | rfl | ⟨e,he,_⟩ | ⟨e,he,_⟩
   ·exact .inr HS.out.2.1
   ·exact .inr HS.out.2.2
   ·simp [Ca.all] at he
   ·simp [Ca.all] at he
  ·simp [Value.ownBlock] at hk
 refine ⟨st,F1,_,rfl,⟨HD1.out.keeps HK2.out (fun k hk e=>HBF.out.2 (by simp at e;subst e;exact hk)),⟨bf,c,bm,_,HST.out,rfl⟩,fun k hk hg=>?_⟩,HFR.out,fun k hk=>?_,?_⟩
 ·rcases hG k hg with rfl | h
  ·exact HBF.out.2 hk
  ·have:=HD1.out.lt k hk
   omega
 ·rcases hG k hk with rfl | h
  ·exact HBF.out.1
  ·exact Nat.le_trans HK1.out.size h
 ·exact HK1.out.trans (G:=[bf]) HK2.out (fun k hk=>by simp at hk;subst hk;exact .inr HBF.out.1)
set_option maxRecDepth 100000 in
set_option maxHeartbeats 800000 in
theorem cFresh_ok {w:World} {n width room:Nat} (hn:3≤n) (hn2:n≤4096) (h1:1≤width) (h2:width≤32) (hr:room≤4096) :
  Calls Tryz.prog 5 #[.int .i64 n,.int .i64 width,.int .i64 room] w fun e w'=>∃ b st F G,e=.returned (.tuple #[.pointer (some ⟨b,0,none⟩),.pointer (some ⟨st,0,none⟩)]) ∧
   StoreOn w' st b ⟨⟨supB width n,2,1⟩,⟨room,[],[],0,0,0⟩⟩ (openD (fmtD (D.new n) width)) F G∧(∀ k∈F,w.heap.size≤k)∧(∀ k∈G,w.heap.size≤k)∧Keeps [] w w':=by
 obtain ⟨f1,f2,f3,f4,f5⟩:=fmt_new hn hn2 h1 h2
 have CN:=Lib.hid (dNew_yes (w:=w) n hn hn2)
 have HF:=Lib.hid (And.intro f1 (And.intro f3 (And.intro f4 f5)))
 have HB:=Lib.hid (new_blank hn)
 have H12:=Lib.hid (And.intro h1 (And.intro h2 hr))
 clear f1 f2 f3 f4 f5 hn hn2 h1 h2 hr
 go_enter Tryz.func5,Tryz.ntmps5
 go_wp2_with fail
 refine CN.out.mono ?_
 rintro e w1 ⟨rfl,hk1,F1,hd1,hf1⟩
 obtain ⟨b,hb⟩:∃ b,b=w.heap.size+2:=⟨_,rfl⟩
 rw [← hb] at hd1 ⊢
 have CF:=Lib.hid (format_blank hd1 (new_calm n) rfl HB.out H12.out.1 H12.out.2.1)
 have HK1:=Lib.hid hk1
 have HF1:=Lib.hid hf1
 clear hk1 hd1 hf1 hb CN
 go_wp2_with fail
 refine CF.out.mono ?_
 rintro e w2 ⟨rfl,F2,hd2,hf2,hk2⟩
 have CO:=Lib.hid (cOpened_ok room hd2 HF.out.1.dead HF.out.2.2.1 (by rw [HF.out.2.1];rfl) H12.out.2.2 (by show (2:Int)≤2;omega) (by show (2:Int)≤4096;omega))
 have HF2:=Lib.hid (HF1.out.trans hf2 HK1.out.size)
 have HK2:=Lib.hid (HK1.out.trans hk2 HF1.out)
 clear hd2 hf2 hk2 CF
 go_wp2_with fail
 refine CO.out.mono ?_
 rintro e w3 ⟨st,F3,G,rfl,hon,hf3,hg3,hk3⟩
 have HON:=Lib.hid hon
 have HF3:=Lib.hid (HF2.out.trans hf3 HK2.out.size)
 have HK3:=Lib.hid (HK2.out.trans hk3 HF2.out)
 have HG3:=Lib.hid (fun k hk=>Nat.le_trans HK2.out.size (hg3 k hk))
 clear hon hf3 hg3 hk3 CO
 go_wp2_with fail
 go_ret2
 have h5:wrap64 ((fmtD (D.new n) width).epoch+1)=1:=by rw [HF.out.2.2.2];simp [wrap64]
 have hon:=HON.out
 rw [h5] at hon
 exact ⟨b,st,F3,G,rfl,hon,fun k hk=>(HF3.out k hk).resolve_left (by simp),HG3.out,HK3.out⟩
end Go.Proofs.YtakaocenbempmaaGreatDoor
