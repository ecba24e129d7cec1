/-
  Lemmas of a claim, bundle M: XDk XDkA XDkC XDkD XDkE XDkB XRing XPMap.
-/
import Derived.Test.YtakaocenbempmaaGreatDoorPfB
set_option linter.unusedVariables false
set_option linter.unusedSimpArgs false
namespace Go.Proofs.YtakaocenbempmaaGreatDoor
open Go.RowKit
structure D where
 reads:Int
 writes:Int
 syncs:Int
 n:Nat
 img:List UInt8
 q:List (Nat × List UInt8)
 armed:Int
 dead:Bool
 epoch:Int
def qCells (q:List (Nat × List UInt8)):List Value:=q.flatMap fun p=>.int .i64 p.1 :: p.2.map B
def newest (q:List (Nat × List UInt8)):Int→Option Int:=(q.zipIdx).foldl (fun f p=>fun j=>if j=(p.1.1:Int) then some (p.2:Int) else f j) (fun _=>none)
theorem newest_snoc (q:List (Nat × List UInt8)) (page:Nat) (data:List UInt8):newest (q++[(page,data)])=fun j=>if j=(page:Int) then some (q.length:Int) else newest q j:=by
 simp [newest,List.zipIdx_append]
theorem qCells_snoc (q:List (Nat × List UInt8)) (page:Nat) (data:List UInt8):qCells (q++[(page,data)])=qCells q++(.int .i64 page :: data.map B):=by simp [qCells]
def D.ok (d:D):Prop:=3≤d.n∧d.n≤4096∧d.img.length=256 * d.n∧(∀ p∈d.q,p.1 < d.n∧p.2.length=256)∧0≤d.armed∧d.armed≤9223372036854775807
def dCells (d:D) (bp:Nat) (qv:Value) (bm:Nat):Array Value :=
 #[.int .i64 d.reads,.int .i64 d.writes,.int .i64 d.syncs,.int .i64 d.q.length,.slice (some ⟨bp,0,none⟩) d.n d.n,qv,.map (some bm),.int .i64 d.armed,.bool d.dead,.int .i64 d.epoch]
structure DiskIn (w:World) (b:Nat) (d:D) (bp:Nat) (qv:Value) (bm:Nat):Prop where
 ok:d.ok
 root:w.heap[b]?=some (.cells (dCells d bp qv bm) 53 (0,0))
 pages:w.heap[bp]?=some (.cells (d.img.map B).toArray 145 (0,0))
 queue:w.ownsRow 0 147 257 qv d.q.length (qCells d.q)
 map:IMap Tryz.prog w 3 bm d.q.length (newest d.q)
def DiskAt (w:World) (b:Nat) (d:D) (F:List Nat):Prop:=∃ bp qv bm,DiskIn w b d bp qv bm∧F=b :: bp :: bm :: qv.ownBlock.toList
section
variable {w w':World} {b:Nat} {d:D} {F:List Nat} {bp bm:Nat} {qv:Value}
theorem DiskIn.keep (h:DiskIn w b d bp qv bm) (hb:∀ k∈b :: bp :: bm :: qv.ownBlock.toList,w'.heap[k]?=w.heap[k]?):DiskIn w' b d bp qv bm :=
 ⟨h.ok,(hb b (by simp)).trans h.root,(hb bp (by simp)).trans h.pages,ownsRow_keep h.queue (fun k hk=>hb k (by simp [hk])),h.map.keep (hb bm (by simp))⟩
theorem DiskIn.lt (h:DiskIn w b d bp qv bm):∀ k∈b :: bp :: bm :: qv.ownBlock.toList,k < w.heap.size:=by
 intro k hk
 simp only [List.mem_cons,Option.mem_toList] at hk
 rcases hk with rfl | rfl | rfl | hk
 ·exact lt_of_heap h.root
 ·exact lt_of_heap h.pages
 ·exact h.map.lt
 ·exact (h.queue.lt k hk).2
theorem DiskAt.lt (h:DiskAt w b d F):∀ k∈F,k < w.heap.size:=by obtain ⟨_,_,_,h,rfl⟩:=h;exact h.lt
theorem DiskAt.ok (h:DiskAt w b d F):d.ok:=by obtain ⟨_,_,_,h,rfl⟩:=h;exact h.ok
theorem DiskAt.keep (h:DiskAt w b d F) (hb:∀ k∈F,w'.heap[k]?=w.heap[k]?):DiskAt w' b d F:=by
 obtain ⟨bp,qv,bm,h,rfl⟩:=h
 exact ⟨bp,qv,bm,h.keep hb,rfl⟩
theorem DiskAt.keeps {G:List Nat} (h:DiskAt w b d F) (hk:Keeps G w w') (hd:∀ k∈F,k ∉ G):DiskAt w' b d F :=
 h.keep fun k hk'=>hk.block k (h.lt k hk') (hd k hk')
theorem DiskIn.apart (h:DiskIn w b d bp qv bm):b≠bp∧b≠bm∧bp≠bm∧∀ g,qv.ownBlock=some g→b≠g∧bp≠g∧bm≠g:=by
 obtain ⟨es,clock,hm⟩:∃ es clock,w.heap[bm]?=some (.map es clock):=by obtain ⟨_,⟨es,clock,h,_⟩,_⟩:=h.map;exact ⟨es,clock,h⟩
 refine ⟨?_,?_,?_,?_⟩
 ·rintro rfl;have:=h.root.symm.trans h.pages;simp at this
 ·rintro rfl;have:=h.root.symm.trans hm;simp at this
 ·rintro rfl;have:=h.pages.symm.trans hm;simp at this
 ·intro g hg
  rcases h.queue.2 with ⟨rfl,_⟩ | ⟨g',cap,cur,rfl,_,hgg,_⟩
  ·simp [Value.ownBlock] at hg
  ·simp only [Value.ownBlock,Option.some.injEq] at hg
   subst hg
   refine ⟨?_,?_,?_⟩
   ·rintro rfl;have:=h.root.symm.trans hgg;simp at this
   ·rintro rfl;have:=h.pages.symm.trans hgg;simp at this
   ·rintro rfl;have:=hm.symm.trans hgg;simp at this
theorem DiskIn.form (h:DiskIn w b d bp qv bm):∃ aq cq,qv=.slice aq d.q.length cq:=by
 rcases h.queue.2 with ⟨rfl,h0⟩ | ⟨g,cap,cur,rfl,_⟩
 ·exact ⟨none,0,by rw [h0]⟩
 ·exact ⟨_,_,rfl⟩
theorem DiskIn.qlen (h:DiskIn w b d bp qv bm):d.q.length≤9223372036854775807:=by
 rcases h.queue.2 with ⟨_,h0⟩ | ⟨g,cap,cur,_,_,_,h1,h2,_⟩
 ·omega
 ·simp only [maxLen] at h2;omega
def D.new (n:Nat):D:={ reads:=0,writes:=0,syncs:=0,n,img:=List.replicate (256 * n) 0,q:=[],armed:=0,dead:=false,epoch:=0 }
def zPage:Value:=.agg (Array.replicate 256 (.int .u8 0))
theorem info_page:(Tryz.prog.info? 145).map (fun i=>(i.zero,i.size,i.bytes))=some (some zPage,256,256):=by kernel_rfl
theorem size_page:(Tryz.prog.info? 145).map (·.size)=some 256:=by kernel_rfl
def D.act (d:D):D:=if d.armed=0 then d else { d with armed:=d.armed - 1,dead:=decide (d.armed=1) }
def D.write (d:D) (page:Nat) (data:List UInt8):D:=D.act { d with q:=d.q++[(page,data)],writes:=wrap64 (d.writes+1) }
def wCells (page:Nat) (data:List UInt8):Array Value:=(.int .i64 page :: data.map B).toArray
noncomputable def zWrite (page:Int):Array Value:=Tryz.zeroCells147.setIfInBounds 0 (.int .i64 page)
theorem zWrite_zero:Tryz.zeroCells147=#[.int .i64 0]++Array.replicate 256 (.int .u8 0):=by kernel_rfl
theorem zWrite_size (page:Int):(zWrite page).size=257:=by rw [zWrite,zWrite_zero];simp
theorem zWrite_list (page:Int):(zWrite page).toList=.int .i64 page :: List.replicate 256 (.int .u8 0):=by
 rw [zWrite,zWrite_zero]
 simp only [Array.toList_setIfInBounds,Array.toList_append,Array.toList_replicate]
 rfl
theorem zWrite_ones (page:Int):(zWrite page).all (·.oneCell')=true:=by
 rw [Array.all_eq_true_iff_forall_mem]
 intro v hv
 have hv':v∈(zWrite page).toList:=by simpa using hv
 rw [zWrite_list] at hv'
 rcases List.mem_cons.1 hv' with rfl | hv'
 ·rfl
 ·rw [List.eq_of_mem_replicate hv'];rfl
theorem size_write:(Tryz.prog.info? 147).map (·.size)=some 257:=by kernel_rfl
theorem run_store_write (page:Int) (w:World):(Instr.storeAt 147 (.pointer (some ⟨w.heap.size,0,none⟩)) (.agg (Tryz.zeroCells147.setIfInBounds 0 (.int .i64 page)))).run Tryz.prog (w.alloc (.cells Tryz.zeroCells147 147))=.ok () (w.alloc (.cells (zWrite page) 147)) :=
 run_storeAt_new w 147 Tryz.zeroCells147 (zWrite page) (by rw [size_write,zWrite_size]) (by rw [zWrite_size,zWrite_zero];simp) (zWrite_ones page)
theorem write_cells (page:Nat) {data:List UInt8} (hl:data.length=256):((zWrite page).toList.take 1++data.map B++(zWrite page).toList.drop (1+(data.map B).length)).toArray=wCells page data:=by
 rw [zWrite_list,wCells,List.length_map,hl]
 generalize hL:List.replicate 256 (Value.int .u8 0)=L
 have:L.length=256:=by rw [← hL,List.length_replicate]
 rw [List.drop_of_length_le (by simp [this])]
 simp
theorem info_write:(Tryz.prog.info? 147).map (fun i=>(i.zero,i.size,i.bytes))=some (some (.agg Tryz.zeroCells147),257,264):=by kernel_rfl
theorem cells_zero_write:(Value.agg Tryz.zeroCells147).cells.size=257:=Tryz.zeroCells147_size
attribute [irreducible] zWrite zPage
theorem DiskIn.cells (h:DiskIn w b d bp qv bm) :
  w.cell? ⟨b,0,none⟩=some (.int .i64 d.reads)∧w.cell? ⟨b,1,none⟩=some (.int .i64 d.writes)∧w.cell? ⟨b,2,none⟩=some (.int .i64 d.syncs)∧w.cell? ⟨b,3,none⟩=some (.int .i64 d.q.length) ∧
  w.cell? ⟨b,4,none⟩=some (.slice (some ⟨bp,0,none⟩) d.n d.n)∧w.cell? ⟨b,5,none⟩=some qv∧w.cell? ⟨b,6,none⟩=some (.map (some bm))∧w.cell? ⟨b,7,none⟩=some (.int .i64 d.armed) ∧
  w.cell? ⟨b,8,none⟩=some (.bool d.dead)∧w.cell? ⟨b,9,none⟩=some (.int .i64 d.epoch):=by
 refine ⟨?_,?_,?_,?_,?_,?_,?_,?_,?_,?_⟩ <;> (rw [cell_of_row w b _ _ _ _ h.root];rfl)
theorem DiskIn.free (h:DiskIn w b d bp qv bm) (j:Nat):w.frozen? ⟨b,j,none⟩=false:=frozen_of_row w b j _ _ h.root
end
section
variable {w w':World} {b:Nat} {d:D} {bp bm:Nat} {qv:Value}
theorem root_set {cs:Array Value} (h:w.heap[b]?=some (.cells cs 53 (0,0))) (j:Nat) (v:Value):(w.setCell ⟨b,j,none⟩ v).heap[b]?=some (.cells (cs.setIfInBounds j v) 53 (0,0)):=heap_setCell_same w b j cs _ v h
theorem act_close (h:DiskIn w b d bp qv bm) (hd:d.dead=false) (hw:w'=if d.armed=0 then w else (w.setCell ⟨b,7,none⟩ (.int .i64 (d.armed - 1))).setCell ⟨b,8,none⟩ (.bool (decide (d.armed=1)))) :
  DiskIn w' b d.act bp qv bm∧Keeps [b] w w':=by
 by_cases h0:d.armed=0
 ·rw [if_pos h0] at hw
  subst hw
  exact ⟨by simpa [D.act,h0] using h,Keeps.refl _ _⟩
 ·rw [if_neg h0] at hw
  subst hw
  have hk:Keeps [b] w ((w.setCell ⟨b,7,none⟩ (.int .i64 (d.armed - 1))).setCell ⟨b,8,none⟩ (.bool (decide (d.armed=1)))):=((Keeps.refl _ _).setCell (.inl (by simp)) _).setCell (.inl (by simp)) _
  have hok:=h.ok
  obtain ⟨a1,a2,a3,a4⟩:=h.apart
  have e:d.act={ d with armed:=d.armed - 1,dead:=decide (d.armed=1) }:=by simp [D.act,h0]
  rw [e]
  refine ⟨⟨?_,?_,?_,?_,?_⟩,hk⟩
  ·obtain ⟨o1,o2,o3,o4,o5,o6⟩:=hok
   exact ⟨o1,o2,o3,o4,by simp only;omega,by simp only;omega⟩
  ·exact root_set (root_set h.root 7 _) 8 _
  ·exact (hk.block bp (lt_of_heap h.pages) (by simpa using Ne.symm a1)).trans h.pages
  ·exact ownsRow_keep h.queue (fun k hq=>hk.block k (h.queue.lt k hq).2 (by simpa using Ne.symm (a4 k hq).1))
  ·exact h.map.keep (hk.block bm h.map.lt (by simpa using Ne.symm a2))
theorem D.act_q (d:D):d.act.q=d.q:=by unfold D.act;split <;> rfl
theorem D.act_n (d:D):d.act.n=d.n:=by unfold D.act;split <;> rfl
theorem D.act_img (d:D):d.act.img=d.img:=by unfold D.act;split <;> rfl
theorem D.act_syncs (d:D):d.act.syncs=d.syncs:=by unfold D.act;split <;> rfl
theorem DiskIn.setc (h:DiskIn w b d bp qv bm) (d':D) (j:Nat) (v:Value) (himg:d'.img=d.img) (hq:d'.q=d.q) (ok:d'.ok) (hc:dCells d' bp qv bm=(dCells d bp qv bm).setIfInBounds j v) :
  DiskIn (w.setCell ⟨b,j,none⟩ v) b d' bp qv bm:=by
 have hk:Keeps [b] w (w.setCell ⟨b,j,none⟩ v):=(Keeps.refl _ _).setCell (.inl (by simp)) _
 obtain ⟨a1,a2,a3,a4⟩:=h.apart
 refine ⟨ok,?_,?_,?_,?_⟩
 ·rw [hc];exact root_set h.root j v
 ·rw [himg];exact (hk.block bp (lt_of_heap h.pages) (by simpa using Ne.symm a1)).trans h.pages
 ·rw [hq];exact ownsRow_keep h.queue (fun k hq=>hk.block k (h.queue.lt k hq).2 (by simpa using Ne.symm (a4 k hq).1))
 ·rw [hq];exact h.map.keep (hk.block bm h.map.lt (by simpa using Ne.symm a2))
theorem DiskIn.keeps {G:List Nat} (h:DiskIn w b d bp qv bm) (hk:Keeps G w w') (hd:∀ k∈b :: bp :: bm :: qv.ownBlock.toList,k ∉ G):DiskIn w' b d bp qv bm :=
 h.keep fun k hk'=>hk.block k (h.lt k hk') (hd k hk')
theorem write_close {d1:D} {qv':Value} (hok:d1.ok) (hroot:w.heap[b]?=some (.cells (dCells d bp qv bm) 53 (0,0))) (hpg:w.heap[bp]?=some (.cells (d.img.map B).toArray 145 (0,0)))
  (hq:w.ownsRow 0 147 257 qv' d1.q.length (qCells d1.q)) (hm:IMap Tryz.prog w 3 bm d1.q.length (newest d1.q)) (hbp:b≠bp) (hbm:b≠bm) (hbq:qv'.ownBlock≠some b) (n1 n3:Int)
  (he:d1={ d with q:=d1.q,writes:=n1 }) (h3:n3=d1.q.length) :
  DiskIn (((w.setCell ⟨b,5,none⟩ qv').setCell ⟨b,1,none⟩ (.int .i64 n1)).setCell ⟨b,3,none⟩ (.int .i64 n3)) b d1 bp qv' bm:=by
 have hk:Keeps [b] w (((w.setCell ⟨b,5,none⟩ qv').setCell ⟨b,1,none⟩ (.int .i64 n1)).setCell ⟨b,3,none⟩ (.int .i64 n3)):=(((Keeps.refl _ _).setCell (.inl (by simp)) _).setCell (.inl (by simp)) _).setCell (.inl (by simp)) _
 subst h3
 rw [he] at hok hq hm ⊢
 refine ⟨hok,?_,?_,?_,?_⟩
 ·exact root_set (root_set (root_set hroot 5 _) 1 _) 3 _
 ·exact (hk.block bp (lt_of_heap hpg) (by simpa using Ne.symm hbp)).trans hpg
 ·exact ownsRow_keep hq (fun k hq'=>hk.block k (hq.lt k hq').2 (by simp only [List.mem_singleton];rintro rfl;exact hbq hq'))
 ·exact hm.keep (hk.block bm hm.lt (by simpa using Ne.symm hbm))
end
def D.page (d:D) (p:Nat):List UInt8:=(d.img.drop (p * 256)).take 256
def D.read (d:D) (p:Nat):List UInt8:=match newest d.q p with
 | some i=>(d.q.getD i.toNat (0,[])).2
 | none=>d.page p
theorem newest_some {q:List (Nat × List UInt8)} {p:Nat} {i:Int} (h:newest q p=some i):0≤i∧i < q.length∧(q.getD i.toNat (0,[])).1=p:=by
 suffices hs:∀ r:List (Nat × List UInt8),∀ i,newest r.reverse p=some i→0≤i∧i < r.reverse.length∧(r.reverse.getD i.toNat (0,[])).1=p by
  have:=hs q.reverse i (by simpa using h)
  simpa using this
 intro r
 induction r with
 | nil=>intro i h;simp [newest] at h
 | cons x r ih =>
  intro i h
  obtain ⟨x1,x2⟩:=x
  simp only [List.reverse_cons] at h ⊢
  rw [newest_snoc] at h
  by_cases e:(p:Int)=x1
  ·simp only [e,if_true,Option.some.injEq] at h
   subst h
   refine ⟨by omega,by simp;omega,?_⟩
   simp
   omega
  ·simp only [e,if_false] at h
   obtain ⟨h1,h2,h3⟩:=ih i h
   refine ⟨h1,by simp at h2 ⊢;omega,?_⟩
   rw [List.getD_eq_getElem?_getD,List.getElem?_append_left (by omega),← List.getD_eq_getElem?_getD]
   exact h3
theorem qCells_at {q:List (Nat × List UInt8)} (hq:∀ p∈q,p.2.length=256) {i:Nat} (hi:i < q.length):∃ xs zs,qCells q=xs++(.int .i64 q[i].1 :: q[i].2.map B)++zs∧xs.length=i * 257:=by
 refine ⟨qCells (q.take i),qCells (q.drop (i+1)),?_,?_⟩
 ·have e:q=q.take i++q[i] :: q.drop (i+1):=by simp
  have e2:=congrArg qCells e
  simp only [qCells,List.flatMap_append,List.flatMap_cons] at e2 ⊢
  rw [← List.append_assoc] at e2
  exact e2
 ·have:∀ r:List (Nat × List UInt8),(∀ p∈r,p.2.length=256)→(qCells r).length=r.length * 257:=by
   intro r
   induction r with
   | nil=>simp [qCells]
   | cons x r ih =>
    intro h
    have h1:=ih (fun p hp=>h p (by simp [hp]))
    have h2:=h x (by simp)
    simp only [qCells,List.flatMap_cons,List.length_append,List.length_cons,List.length_map] at h1 ⊢
    omega
  rw [this _ (fun p hp=>hq p (List.mem_of_mem_take hp))]
  simp
  omega
theorem queue_range {w:World} {q:List (Nat × List UInt8)} {gq cq:Nat} (h:w.ownsRow 0 147 257 (.slice (some ⟨gq,0,none⟩) q.length cq) q.length (qCells q)) (hq:∀ p∈q,p.2.length=256) {i:Nat} (hi:i < q.length) :
  w.rangeAt gq (i * 257) (.int .i64 q[i].1 :: q[i].2.map B):=by
 rcases h.2 with ⟨hv,_⟩ | ⟨g,cap,cur,hv,_,hh,hle,_,hsz,htk⟩
 ·cases hv
 ·injection hv with e _ _
  injection e with e
  injection e with e
  subst e
  obtain ⟨xs,zs,hx,hxl⟩:=qCells_at hq hi
  obtain ⟨T,hT⟩:∃ T,T=cur.toList.drop (q.length * 257):=⟨_,rfl⟩
  have hcur:cur=(xs++(Value.int .i64 (q[i].1:Int) :: q[i].2.map B)++(zs++T)).toArray:=by
   apply Array.ext'
   have e1:=List.take_append_drop (q.length * 257) cur.toList
   rw [htk,hx,← hT] at e1
   rw [← e1]
   simp
  rw [hcur] at hh
  have:=rangeAt_part hh
  rwa [hxl] at this
theorem run_store_w {l:List Value} (h:l.length=257) (h1:∀ v∈l,v.oneCell'=true) (w:World) {n:Nat} (hn:n=w.heap.size):(Instr.storeAt 147 (.pointer (some ⟨n,0,none⟩)) (.agg l.toArray)).run Tryz.prog (w.alloc (.cells Tryz.zeroCells147 147))=.ok () (w.alloc (.cells l.toArray 147)):=by
 subst hn
 exact run_storeAt_new w 147 Tryz.zeroCells147 l.toArray (by rw [size_write];simp [h]) (by rw [Tryz.zeroCells147_size];simp [h]) (all_oneCell_toArray h1)
open Go.RowKit
theorem dHas_any {w:World} {b bp n cap:Nat} (page:Int) (hp:w.cell? ⟨b,4,none⟩=some (.slice (some ⟨bp,0,none⟩) n cap)) :
  Calls Tryz.prog 88 #[.pointer (some ⟨b,0,none⟩),.int .i64 page] w fun e w'=>e=.returned (.bool (decide (0≤page) && decide (page < n)))∧w=w':=by
 by_cases h:0≤page
 all_goals
  go_enter Tryz.func88,Tryz.ntmps88
  go_wp2
  go_ret
  exact ⟨by first | (simp [h];done) | (simp;omega),rfl⟩
theorem dPages_any {w:World} {b bp n cap:Nat} (hp:w.cell? ⟨b,4,none⟩=some (.slice (some ⟨bp,0,none⟩) n cap)) :
  Calls Tryz.prog 41 #[.pointer (some ⟨b,0,none⟩)] w fun e w'=>e=.returned (.int .i64 n)∧w=w':=by
 go_enter Tryz.func41,Tryz.ntmps41
 go_wp2
 go_ret
 exact ⟨rfl,rfl⟩
theorem dPower_any {w:World} {b:Nat} {d:Bool} (hp:w.cell? ⟨b,8,none⟩=some (.bool d)) :
  Calls Tryz.prog 39 #[.pointer (some ⟨b,0,none⟩)] w fun e w'=>e=.returned (.bool (!d))∧w=w':=by
 go_enter Tryz.func39,Tryz.ntmps39
 go_wp2
 go_ret
 exact ⟨rfl,rfl⟩
theorem dEpoch_any {w:World} {b:Nat} {n:Int} (hp:w.cell? ⟨b,9,none⟩=some (.int .i64 n)) :
  Calls Tryz.prog 77 #[.pointer (some ⟨b,0,none⟩)] w fun e w'=>e=.returned (.int .i64 n)∧w=w':=by
 go_enter Tryz.func77,Tryz.ntmps77
 go_wp2
 go_ret
 exact ⟨rfl,rfl⟩
theorem dClaim_any {w:World} {b:Nat} {n:Int} (hp:w.cell? ⟨b,9,none⟩=some (.int .i64 n)) (hf:w.frozen? ⟨b,9,none⟩=false) :
  Calls Tryz.prog 73 #[.pointer (some ⟨b,0,none⟩)] w fun e w'=>e=.returned (.int .i64 (wrap64 (n+1)))∧w'=w.setCell ⟨b,9,none⟩ (.int .i64 (wrap64 (n+1))):=by
 go_enter Tryz.func73,Tryz.ntmps73
 go_wp2
 go_ret
 exact ⟨rfl,rfl⟩
theorem dCounts_any {w:World} {b:Nat} {r wr s o:Int} (h0:w.cell? ⟨b,0,none⟩=some (.int .i64 r)) (h1:w.cell? ⟨b,1,none⟩=some (.int .i64 wr)) (h2:w.cell? ⟨b,2,none⟩=some (.int .i64 s)) (h3:w.cell? ⟨b,3,none⟩=some (.int .i64 o)) :
  Calls Tryz.prog 11 #[.pointer (some ⟨b,0,none⟩)] w fun e w'=>e=.returned (.agg #[.int .i64 r,.int .i64 wr,.int .i64 s,.int .i64 o])∧Keeps [] w w':=by
 have l0:=World.block_lt_of_cell? w _ h0
 go_enter Tryz.func11,Tryz.ntmps11
 go_wp2_with fail
 go_region_held3 (fun w'=>w'.cell? ⟨b,0,none⟩=some (.int .i64 r)∧w'.cell? ⟨b,1,none⟩=some (.int .i64 wr)∧w'.cell? ⟨b,2,none⟩=some (.int .i64 s)∧w'.cell? ⟨b,3,none⟩=some (.int .i64 o)) (go_keep) (fail)
 go_wp2
 exact bodyPost_ret (v:=.agg #[.int .i64 r,.int .i64 wr,.int .i64 s,.int .i64 o]) (by simp [results,Tryz.results11,go_sem]) rfl ⟨rfl,((Keeps.refl _ _).alloc _).drew⟩
theorem dAct_any {w:World} {b:Nat} {n:Int} {dd:Bool} (h7:w.cell? ⟨b,7,none⟩=some (.int .i64 n)) (h8:w.cell? ⟨b,8,none⟩=some (.bool dd)) (f7:w.frozen? ⟨b,7,none⟩=false) (f8:w.frozen? ⟨b,8,none⟩=false) (l0:0≤n) (l1:n≤9223372036854775807) :
  Calls Tryz.prog 71 #[.pointer (some ⟨b,0,none⟩)] w fun e w'=>e=.returned (.int .i64 (if n=1 then 2 else 0))∧w'=if n=0 then w else (w.setCell ⟨b,7,none⟩ (.int .i64 (n - 1))).setCell ⟨b,8,none⟩ (.bool (decide (n=1))):=by
 by_cases h:n=0
 ·have h':(n == 0)=true:=by simp [h]
  subst h
  go_enter Tryz.func71,Tryz.ntmps71
  go_wp2
  go_ret
  exact ⟨rfl,rfl⟩
 ·have h':(n == 0)=false:=by simp [h]
  by_cases h1:n=1
  ·subst h1
   go_enter Tryz.func71,Tryz.ntmps71
   go_wp2
   go_ret
   exact ⟨rfl,rfl⟩
  ·have h'':(n - 1 == 0)=false:=by simp;omega
   go_enter Tryz.func71,Tryz.ntmps71
   go_wp2
   go_ret
   exact ⟨by simp [h1],by simp [h,h1]⟩
theorem dClose_any {w:World} {b bm n:Nat} {f:Int→Option Int} {qv:Value} {o:Int} (h5:w.cell? ⟨b,5,none⟩=some qv) (h6:w.cell? ⟨b,6,none⟩=some (.map (some bm))) (h3:w.cell? ⟨b,3,none⟩=some (.int .i64 o))
  (f5:w.frozen? ⟨b,5,none⟩=false) (f3:w.frozen? ⟨b,3,none⟩=false) (hm:IMap Tryz.prog w 3 bm n f) (hb:b≠bm) :
  Calls Tryz.prog 72 #[.pointer (some ⟨b,0,none⟩)] w fun e w'=>e=.returned (.tuple #[])∧∃ w1,(w.setCell ⟨b,5,none⟩ (.slice none 0 0)).grownBy w1 (some bm)∧IMap Tryz.prog w1 3 bm 0 (fun _=>none)∧w'=w1.setCell ⟨b,3,none⟩ (.int .i64 0):=by
 have hlt:=World.block_lt_of_cell? w _ h3
 obtain ⟨w1,hrun,hmap,hg,hs⟩:=(IMap.keep (w':=w.setCell ⟨b,5,none⟩ (.slice none 0 0)) hm (Below.heap_setCell _ _ _ _ (Ne.symm hb))).clear (tm:=51) Tryz.underlying51
 have g3:w1.cell? ⟨b,3,none⟩=some (.int .i64 o):=by
  rw [hg.cell_far _ (by simpa using hlt) (by simpa using hb),cell_set_off _ (by omega)];exact h3
 have k3:w1.frozen? ⟨b,3,none⟩=false:=by
  rw [hg.frozen_far _ (by simpa using hlt) (by simpa using hb)];simpa using f3
 have HG:=Lib.hid hg
 have HM:=Lib.hid hmap
 clear hm hs hg hmap
 go_enter Tryz.func72,Tryz.ntmps72
 go_wp2_with fail
 go_end0
 exact ⟨rfl,w1,HG.out,HM.out,rfl⟩
theorem dNew_yes {w:World} (n:Nat) (h:3≤n) (h2:n≤4096) :
  Calls Tryz.prog 17 #[.int .i64 n] w fun e w'=>e=.returned (.tuple #[.pointer (some ⟨w.heap.size+2,0,none⟩),.int .i64 0])∧Keeps [] w w'∧∃ F,DiskAt w' (w.heap.size+2) (D.new n) F∧From w [] F:=by
 have h':¬ (n:Int) < 3:=by omega
 have h2':¬ 4096 < (n:Int):=by omega
 have hmm:=@run_makeMap Tryz.prog
 obtain ⟨i,hi,hz0,hz1,hz2⟩:=info_parts info_page
 have hmk:=run_make (P:=Tryz.prog) w 49 145 i _ Tryz.underlying49 hi hz0 .i64 .i64 n n (by omega) (Int.le_refl _) (by rw [hz2];omega) (by omega)
 simp only [zPage,Value.cells,hz1,Int.toNat_natCast,madeCells_same 256 _ _ (by omega)] at hmk
 obtain ⟨Z,hZ⟩:∃ Z,Z=(List.replicate (n * 256) (Value.int .u8 0)).toArray:=⟨_,rfl⟩
 rw [← hZ] at hmk
 have HZ:=Lib.hid hZ
 have HI:=Lib.hid hi
 clear hi hz0 hz1 hz2 hZ
 go_enter Tryz.func17,Tryz.ntmps17
 go_wp2_with fail
 go_ret2
 refine ⟨rfl,(((Keeps.refl _ _).alloc _).alloc _).alloc _,[w.heap.size+2,w.heap.size,w.heap.size+1],⟨w.heap.size,.slice none 0 0,w.heap.size+1,⟨?_,?_,?_,?_,?_⟩,rfl⟩,?_⟩
 ·exact ⟨h,h2,by simp [D.new],by simp [D.new],by simp [D.new],by simp [D.new]⟩
 ·exact heap_new_at (by simp)
 ·rw [heap_old_at (by simp;omega),heap_old_at (by simp),heap_new_at rfl,HZ.out]
  simp [D.new,B,Nat.mul_comm]
 ·exact World.ownsRow_nil _ _ _ _
 ·refine IMap_empty 0 rfl ?_
  rw [heap_old_at (by simp),heap_new_at (by simp)]
 ·intro k hk
  simp only [List.mem_cons,List.not_mem_nil,or_false] at hk
  omega
open Go.RowKit
theorem page_split {d:D} (h:d.ok) {p:Nat} (hp:p < d.n):∃ xs zs,d.img=xs++d.page p++zs∧xs.length=p * 256:=by
 refine ⟨d.img.take (p * 256),d.img.drop ((p+1) * 256),?_,?_⟩
 ·simp only [D.page]
  rw [← List.take_add,Nat.add_mul,Nat.one_mul,List.take_append_drop]
 ·have:=h.2.2.1
  simp
  omega
theorem page_length {d:D} (h:d.ok) {p:Nat} (hp:p < d.n):(d.page p).length=256:=by
 have:=h.2.2.1
 simp [D.page]
 omega
theorem page_range {w:World} {bp:Nat} {d:D} (h:w.heap[bp]?=some (.cells (d.img.map B).toArray 145 (0,0))) (ho:d.ok) {p:Nat} (hp:p < d.n):w.rangeAt bp (p * 256) ((d.page p).map B):=by
 obtain ⟨xs,zs,e,hl⟩:=page_split ho hp
 rw [← hl]
 rw [e,List.map_append,List.map_append] at h
 have:=rangeAt_part h
 rwa [List.length_map] at this
theorem size_page_of {l:List UInt8} (h:l.length=256):(Tryz.prog.info? 145).map (·.size)=some (l.map B).length:=by rw [size_page,List.length_map,h]
theorem run_store_page {l:List UInt8} (h:l.length=256) (w:World) {n:Nat} (hn:n=w.heap.size):(Instr.storeAt 145 (.pointer (some ⟨n,0,none⟩)) (.agg (l.map B).toArray)).run Tryz.prog (w.alloc (.cells Tryz.zeroCells145 145))=.ok () (w.alloc (.cells (l.map B).toArray 145)):=by
 subst hn
 exact run_storeAt_new w 145 Tryz.zeroCells145 (l.map B).toArray (by rw [size_page];simp [h]) (by rw [Tryz.zeroCells145_size];simp [h]) (all_oneCell_toArray (B_one l))
theorem run_store_page2 {l l2:List UInt8} (h:l.length=256) (h2:l2.length=256) (w:World) {n:Nat} (hn:n=w.heap.size):(Instr.storeAt 145 (.pointer (some ⟨n,0,none⟩)) (.agg (l.map B).toArray)).run Tryz.prog (w.alloc (.cells (l2.map B).toArray 145))=.ok () (w.alloc (.cells (l.map B).toArray 145)):=by
 subst hn
 exact run_storeAt_new w 145 (l2.map B).toArray (l.map B).toArray (by rw [size_page];simp [h]) (by simp [h,h2]) (all_oneCell_toArray (B_one l))
set_option maxRecDepth 100000 in
set_option maxHeartbeats 1200000 in
theorem dRead_ok {w:World} {b:Nat} {d:D} {bp bm:Nat} {qv:Value} (page:Nat) (hI:DiskIn w b d bp qv bm) (hd:d.dead=false) (hp:page < d.n) :
  Calls Tryz.prog 66 #[.pointer (some ⟨b,0,none⟩),.int .i64 page] w fun e w'=>∃ g cap,e=.returned (.tuple #[.slice (some ⟨g,0,none⟩) 256 cap,.int .i64 0])∧w.heap.size≤g ∧
   OwnB w' (.slice (some ⟨g,0,none⟩) 256 cap) (d.read page)∧DiskIn w' b { d with reads:=wrap64 (d.reads+1) } bp qv bm∧Keeps [b] w w':=by
 obtain ⟨c0,c1,c2,c3,c4,c5,c6,c7,c8,c9⟩:=hI.cells
 rw [hd] at c8
 have f0:=hI.free 0
 have hok:=hI.ok
 obtain ⟨a1,a2,a3,a4⟩:=hI.apart
 have hp0:(0:Int)≤(page:Int):=Int.natCast_nonneg _
 have hp1:(page:Int) < (d.n:Int):=by omega
 have hh:=dHas_any (page:Int) c4
 rw [show (decide (0≤(page:Int)) && decide ((page:Int) < d.n))=true by simp [hp]] at hh
 have hbl:=lt_of_heap hI.root
 have hpl:=lt_of_heap hI.pages
 have hk1:Keeps [b] w (w.setCell ⟨b,0,none⟩ (.int .i64 (wrap64 (d.reads+1)))):=(Keeps.refl _ _).setCell (.inl (by simp)) _
 have pages1:(w.setCell ⟨b,0,none⟩ (.int .i64 (wrap64 (d.reads+1)))).heap[bp]?=some (.cells (d.img.map B).toArray 145 (0,0)):=(hk1.block bp hpl (by simpa using Ne.symm a1)).trans hI.pages
 have hr1:=page_range pages1 hok hp
 have hpg:=page_length hok hp
 have hk2:Keeps [b] w ((w.setCell ⟨b,0,none⟩ (.int .i64 (wrap64 (d.reads+1)))).alloc (.cells ((d.page page).map B).toArray 145)):=hk1.alloc _
 have hmap2:IMap Tryz.prog ((w.setCell ⟨b,0,none⟩ (.int .i64 (wrap64 (d.reads+1)))).alloc (.cells ((d.page page).map B).toArray 145)) 3 bm d.q.length (newest d.q):=hI.map.keep (hk2.block bm hI.map.lt (by simpa using Ne.symm a2))
 have hlook:=hmap2.look (tm:=51) Tryz.underlying3 Tryz.underlying51 (by kernel_rfl) (show (Lit.int .i64 (page:Int)).wf=true from WalkArith.wf_i64 (by unfold D.ok at hok;omega))
 have HMAP:=Lib.hid hmap2
 have HPG:=Lib.hid pages1
 have HK1:=Lib.hid hk1
 have HK2:=Lib.hid hk2
 have HD:=Lib.hid hd
 clear hmap2 pages1 hk1 hk2 hd
 obtain ⟨aq,cq,rfl⟩:=hI.form
 cases hnew:newest d.q page with
 | none =>
  rw [hnew] at hlook
  simp only [Option.getD_none,Option.isSome_none] at hlook
  have HN:=Lib.hid hnew
  clear hnew
  go_enter Tryz.func66,Tryz.ntmps66
  go_wp2_with (first | (go_at_call 88;refine hh.mono ?_;rintro e w' ⟨rfl,rfl⟩) | (refine wl_load rfl 145 (.tmp 31) rfl ?_;refine ⟨_,_,run_loadAt_mid _ _ _ _ _ _ hr1 Tryz.underlying145 rfl (size_page_of hpg),?_⟩;try simp only [zA,zB,zC,zD,zE,zF,zG,zH]) | (refine wl_store rfl 145 (.tmp 6) (.tmp 32) rfl ?_;refine ⟨_,run_store_page hpg _ (by simp),?_⟩;try simp only [zA,zB,zC,zD,zE,zF,zG,zH]) | (refine wl_append_nil rfl (.const (.slice none 0 0)) (.tmp 51) rfl rfl rfl (d.page page) hpg (by omega) (rangeAt_all (heap_new_at (by simp))) (by omega) ?_))
  intro cap w4 h1 h2 h3
  go_wp2_with fail
  go_ret2
  refine ⟨w.heap.size+1,cap,rfl,by omega,?_,?_,HK2.out.grown h2 (by simp)⟩
  ·unfold D.read;rw [HN.out];exact h1
  ·exact (hI.setc { d with reads:=wrap64 (d.reads+1) } 0 _ rfl rfl hok rfl).keeps (((Keeps.refl [] _).alloc _).grown h2 (by simp)) (by simp)
 | some i =>
  obtain ⟨i0,i1,i2⟩:=newest_some hnew
  obtain ⟨i,rfl⟩:=Int.eq_ofNat_of_zero_le i0
  have hil:i < d.q.length:=by simpa using i1
  rw [hnew] at hlook
  simp only [Option.getD_some,Option.isSome_some] at hlook
  have hrd:d.read page=d.q[i].2:=by unfold D.read;rw [hnew];simp [List.getD_eq_getElem?_getD,List.getElem?_eq_getElem hil]
  have hrl:d.q[i].2.length=256:=(hok.2.2.2.1 _ (List.getElem_mem hil)).2
  obtain ⟨gq,rfl⟩:∃ gq,aq=some ⟨gq,0,none⟩:=by
   rcases hI.queue.2 with ⟨_,h0⟩ | ⟨g,cap,cur,hv,_⟩
   ·omega
   ·injection hv with e _ _
    exact ⟨g,e⟩
  have hgq:b≠gq:=(a4 gq rfl).1
  have hrq:((w.setCell ⟨b,0,none⟩ (.int .i64 (wrap64 (d.reads+1)))).alloc (.cells ((d.page page).map B).toArray 145)).rangeAt gq (i * 257+1) (d.q[i].2.map B):=by
   have hlt:=(hI.queue.lt gq rfl).2
   refine rangeAt_of_heap (w:=w) ?_ (HK2.out.block gq hlt (by simpa using Ne.symm hgq))
   rcases hI.queue.2 with ⟨hv,_⟩ | ⟨g,cap,cur,hv,_,hh,hle,_,hsz,htk⟩
   ·cases hv
   ·injection hv with e _ _
    injection e with e
    injection e with e
    subst e
    obtain ⟨xs,zs,hx,hxl⟩:=qCells_at (fun p hp=>(hok.2.2.2.1 p hp).2) hil
    obtain ⟨T,hT⟩:∃ T,T=cur.toList.drop (d.q.length * 257):=⟨_,rfl⟩
    have hcur:cur=((xs++[Value.int .i64 (d.q[i].1:Int)])++d.q[i].2.map B++(zs++T)).toArray:=by
     apply Array.ext'
     have e1:=List.take_append_drop (d.q.length * 257) cur.toList
     rw [htk,hx,← hT] at e1
     rw [← e1]
     simp
    rw [hcur] at hh
    have:=rangeAt_part hh
    simpa [hxl] using this
  have hi0:(0:Int)≤(i:Int):=Int.natCast_nonneg _
  have hi1:(i:Int) < (d.q.length:Int):=by omega
  have HN:=Lib.hid hnew
  have HRD:=Lib.hid hrd
  clear hnew hrd i0 i1 i2
  go_enter Tryz.func66,Tryz.ntmps66
  go_wp2_with (first | (go_at_call 88;refine hh.mono ?_;rintro e w' ⟨rfl,rfl⟩) | (refine wl_load rfl 145 (.tmp 31) rfl ?_;refine ⟨_,_,run_loadAt_mid _ _ _ _ _ _ hr1 Tryz.underlying145 rfl (size_page_of hpg),?_⟩;try simp only [zA,zB,zC,zD,zE,zF,zG,zH]) | (refine wl_store rfl 145 (.tmp 6) (.tmp 32) rfl ?_;refine ⟨_,run_store_page hpg _ (by simp),?_⟩;try simp only [zA,zB,zC,zD,zE,zF,zG,zH]) | (refine wl_load rfl 145 (.tmp 49) rfl ?_;refine ⟨_,_,run_loadAt_mid _ _ _ _ _ _ hrq Tryz.underlying145 rfl (size_page_of hrl),?_⟩;try simp only [zA,zB,zC,zD,zE,zF,zG,zH]) | (refine wl_store rfl 145 (.tmp 6) (.tmp 50) rfl ?_;refine ⟨_,run_store_page2 hrl hpg _ (by simp),?_⟩;try simp only [zA,zB,zC,zD,zE,zF,zG,zH]) | (refine wl_append_nil rfl (.const (.slice none 0 0)) (.tmp 51) rfl rfl rfl d.q[i].2 hrl (by omega) (rangeAt_all (heap_new_at (by simp))) (by omega) ?_))
  intro cap w4 h1 h2 h3
  go_wp2_with fail
  go_ret2
  refine ⟨w.heap.size+1,cap,rfl,by omega,?_,?_,?_⟩
  ·rw [HRD.out];exact h1
  ·exact (hI.setc { d with reads:=wrap64 (d.reads+1) } 0 _ rfl rfl hok rfl).keeps (((Keeps.refl [] _).alloc _).grown h2 (by simp)) (by simp)
  ·exact (HK1.out.alloc _).grown h2 (by simp)
open Go.RowKit
def setPage (img:List UInt8) (p:Nat) (data:List UInt8):List UInt8:=img.take (p * 256)++data++img.drop (p * 256+data.length)
def synced (img:List UInt8) (q:List (Nat × List UInt8)):List UInt8:=q.foldl (fun m p=>setPage m p.1 p.2) img
theorem setPage_length {img:List UInt8} {p:Nat} {data:List UInt8} (h:p * 256+data.length≤img.length):(setPage img p data).length=img.length:=by simp [setPage];omega
theorem synced_snoc (img:List UInt8) (q:List (Nat × List UInt8)) (x:Nat × List UInt8):synced img (q++[x])=setPage (synced img q) x.1 x.2:=by simp [synced]
theorem DiskIn.setp {w:World} {b:Nat} {d:D} {bp bm:Nat} {qv:Value} (h:DiskIn w b d bp qv bm) (p:Nat) (data:List UInt8) (hp:p < d.n) (hl:data.length=256) :
  DiskIn (w.setCells bp (p * 256) (data.map B)) b { d with img:=setPage d.img p data } bp qv bm:=by
 have hk:Keeps [bp] w (w.setCells bp (p * 256) (data.map B)):=(Keeps.refl _ _).setCells (.inl (by simp)) _ _
 obtain ⟨a1,a2,a3,a4⟩:=h.apart
 obtain ⟨o1,o2,o3,o4,o5,o6⟩:=h.ok
 refine ⟨⟨o1,o2,?_,o4,o5,o6⟩,?_,?_,?_,?_⟩
 ·show (setPage d.img p data).length=_
  rw [setPage_length (by omega),o3]
 ·exact (hk.block b (lt_of_heap h.root) (by simpa using a1)).trans h.root
 ·rw [heap_setCells_same bp _ _ _ w _ h.pages (by simp;omega)]
  simp [setPage]
 ·exact ownsRow_keep h.queue (fun k hq=>hk.block k (h.queue.lt k hq).2 (by simpa using Ne.symm (a4 k hq).2.1))
 ·exact h.map.keep (hk.block bm h.map.lt (by simpa using Ne.symm a3))
theorem dClose_disk {w:World} {b:Nat} {d:D} {bp bm:Nat} {qv:Value} (hI:DiskIn w b d bp qv bm) :
  Calls Tryz.prog 72 #[.pointer (some ⟨b,0,none⟩)] w fun e w'=>e=.returned (.tuple #[])∧DiskIn w' b { d with q:=[] } bp (.slice none 0 0) bm∧Keeps [b,bm] w w':=by
 obtain ⟨c0,c1,c2,c3,c4,c5,c6,c7,c8,c9⟩:=hI.cells
 obtain ⟨a1,a2,a3,a4⟩:=hI.apart
 obtain ⟨o1,o2,o3,o4,o5,o6⟩:=hI.ok
 refine (dClose_any c5 c6 c3 (hI.free 5) (hI.free 3) hI.map a2).mono ?_
 rintro e w' ⟨rfl,w1,hg,hm,rfl⟩
 have hk:Keeps [b,bm] w w1:=((Keeps.refl _ _).setCell (.inl (by simp)) _).grown hg (fun k hk=>.inl (by simp at hk;simp [hk]))
 have hk3:Keeps [b,bm] w (w1.setCell ⟨b,3,none⟩ (.int .i64 0)):=hk.setCell (.inl (by simp)) _
 refine ⟨rfl,⟨⟨o1,o2,o3,by simp,o5,o6⟩,?_,?_,?_,?_⟩,hk3⟩
 ·refine root_set (cs:=(dCells d bp qv bm).setIfInBounds 5 (.slice none 0 0)) ?_ 3 _
  rw [hg.block b (by simpa using lt_of_heap hI.root) (by simpa using a2)]
  exact root_set hI.root 5 _
 ·exact (hk3.block bp (lt_of_heap hI.pages) (by simp;exact ⟨Ne.symm a1,a3⟩)).trans hI.pages
 ·exact World.ownsRow_nil _ _ _ _
 ·exact hm.keep (Below.heap_setCell _ _ _ _ (by simpa using Ne.symm a2))
set_option maxRecDepth 100000 in
set_option maxHeartbeats 800000 in
theorem dSync_ok {w:World} {b:Nat} {d:D} {bp bm:Nat} {qv:Value} (hI:DiskIn w b d bp qv bm) (hd:d.dead=false) (ha:d.armed≠1) :
  Calls Tryz.prog 44 #[.pointer (some ⟨b,0,none⟩)] w fun e w'=>e=.returned (.int .i64 0)∧DiskIn w' b { d.act with img:=synced d.img d.q,q:=[],syncs:=wrap64 (d.syncs+1) } bp (.slice none 0 0) bm∧Keeps [b,bp,bm] w w':=by
 obtain ⟨c0,c1,c2,c3,c4,c5,c6,c7,c8,c9⟩:=hI.cells
 rw [hd] at c8
 have hok:=hI.ok
 have hc:=dAct_any c7 c8 (hI.free 7) (hI.free 8) hok.2.2.2.2.1 hok.2.2.2.2.2
 simp only [if_neg ha] at hc
 have HD:=Lib.hid hd
 have HA:=Lib.hid ha
 clear hd ha
 go_enter Tryz.func44,Tryz.ntmps44
 go_wp2_with fail
 refine hc.mono ?_
 rintro e w1 ⟨rfl,hw⟩
 obtain ⟨hI1,hk1⟩:=act_close hI HD.out hw
 clear hw c0 c1 c2 c3 c4 c5 c6 c7 c8 c9
 obtain ⟨c0,c1,c2,c3,c4,c5,c6,c7,c8,c9⟩:=hI1.cells
 obtain ⟨aq,cq,rfl⟩:=hI.form
 go_wp2_with fail
 have hql:=hI.qlen
 have hq6:∀ p∈d.q,p.2.length=256:=fun p hp=>(hok.2.2.2.1 p hp).2
 go_loopw [20] (fun i wr=>∃ k:Nat,k≤d.q.length∧i=.int .i64 k∧DiskIn wr b { d.act with img:=synced d.img (d.q.take k) } bp (.slice aq d.q.length cq) bm∧Keeps [b,bp] w wr) (fun i _=>d.q.length - (intOf i).toNat)
 case atStart =>
  refine ⟨0,Nat.zero_le _,rfl,?_,hk1.mono (by simp)⟩
  have e:({ d.act with img:=synced d.img (d.q.take 0) }:D)=d.act:=by simp [synced,← D.act_img d]
  rw [e]
  exact hI1
 case round =>
  obtain ⟨k,hk,rfl,hIr,hkr⟩:=hrel
  clear c0 c1 c2 c3 c4 c5 c6 c7 c8 c9
  obtain ⟨c0,c1,c2,c3,c4,c5,c6,c7,c8,c9⟩:=hIr.cells
  simp only [D.act_n] at c4
  by_cases hlt:k < d.q.length
  ·obtain ⟨gq,rfl⟩:∃ gq,aq=some ⟨gq,0,none⟩:=by
    rcases hI.queue.2 with ⟨_,h0⟩ | ⟨g,cap,cur,hv,_⟩
    ·omega
    ·injection hv with e _ _
     exact ⟨g,e⟩
   have hrange:=queue_range (q:=d.q) (by have:=hIr.queue;simpa [D.act_q] using this) hq6 hlt
   have hpn:=(hok.2.2.2.1 _ (List.getElem_mem hlt)).1
   have hpl:=(hok.2.2.2.1 _ (List.getElem_mem hlt)).2
   obtain ⟨data,hdata⟩:∃ data,data=d.q[k].2:=⟨_,rfl⟩
   obtain ⟨p,hp⟩:∃ p,p=d.q[k].1:=⟨_,rfl⟩
   rw [← hdata,← hp] at hrange
   rw [← hp] at hpn
   rw [← hdata] at hpl
   have HQ:=Lib.hid hdata
   have HP:=Lib.hid hp
   clear hdata hp
   obtain ⟨wl,hwl⟩:∃ wl,wl=Value.int .i64 (p:Int) :: data.map B:=⟨_,rfl⟩
   rw [← hwl] at hrange
   have hwl0:wl.length=257:=by rw [hwl];simp [hpl]
   have hwl1:∀ v∈wl,v.oneCell'=true:=by
    rw [hwl]
    intro u hu'
    rcases List.mem_cons.1 hu' with rfl | hu'
    ·rfl
    ·exact B_one data u hu'
   have hbl:=lt_of_heap hIr.root
   have hbpl:=lt_of_heap hIr.pages
   have hbox:((wr.alloc (.cells wl.toArray 147)).heap[wr.heap.size]?=some (.cells wl.toArray 147 (0,0))):=heap_new_at rfl
   have hcell0:(wr.alloc (.cells wl.toArray 147)).cell? ⟨wr.heap.size,0,none⟩=some (.int .i64 (p:Int)):=by rw [cell_of_row _ _ _ _ _ _ hbox,hwl];rfl
   have hrd:(wr.alloc (.cells wl.toArray 147)).rangeAt wr.heap.size 1 (data.map B):=by
    rw [show wl=[Value.int .i64 (p:Int)]++data.map B++[] by rw [hwl];simp]
    exact rangeAt_part (heap_new_at rfl)
   have hth:(wr.alloc (.cells wl.toArray 147)).there bp (p * 256) (data.map B).length:=by
    refine there_of_heap (w:=wr) (there_all hIr.pages _ _ ?_) (heap_old_at hbpl)
    have:=hIr.ok.2.2.1
    simp only [D.act_n] at this
    simp only [List.length_map,this,hpl]
    omega
   have hc4:(wr.alloc (.cells wl.toArray 147)).cell? ⟨b,4,none⟩=some (.slice (some ⟨bp,0,none⟩) d.n d.n):=(World.cell?_alloc_lt _ _ ⟨b,4,none⟩ hbl).trans c4
   have HWL:=Lib.hid hwl
   clear hwl hbox
   have hp0:(0:Int)≤(p:Int):=Int.natCast_nonneg _
   have hp1:(p:Int) < (d.n:Int):=by omega
   have hk0:(0:Int)≤(k:Int):=Int.natCast_nonneg _
   have hk1':(k:Int) < (d.q.length:Int):=by omega
   go_wp2_with (first | (refine wl_load rfl 147 (.tmp 22) rfl ?_;refine ⟨_,_,run_loadAt_mid _ _ _ _ _ _ hrange Tryz.underlying147 rfl (by rw [size_write,hwl0]),?_⟩;try simp only [zA,zB,zC,zD,zE,zF,zG,zH]) | (refine wl_store rfl 147 (.tmp 5) (.tmp 23) rfl ?_;refine ⟨_,run_store_w hwl0 hwl1 _ (by simp),?_⟩;try simp only [zA,zB,zC,zD,zE,zF,zG,zH]))
   have s4:∀ W:World,(W.setCells bp (p * 256) (data.map B)).cell? ⟨b,4,none⟩=W.cell? ⟨b,4,none⟩:=fun W=>World.cell?_setCells_out bp _ _ W _ (fun e _=>absurd e hI.apart.1)
   have s0:∀ W:World,(W.setCells bp (p * 256) (data.map B)).cell? ⟨wr.heap.size,0,none⟩=W.cell? ⟨wr.heap.size,0,none⟩:=fun W=>World.cell?_setCells_out bp _ _ W _ (fun e _=>absurd (show wr.heap.size=bp from e) (by omega))
   have hu:=Tryz.underlying145
   have hi:(Tryz.prog.info? 145).map (·.size)=some (data.map B).length:=size_page_of hpl
   have hl1:∀ v∈data.map B,v.oneCell'=true:=B_one data
   go_region_held3 (fun w'=>w'.cell? ⟨b,4,none⟩=some (.slice (some ⟨bp,0,none⟩) d.n d.n)∧w'.cell? ⟨wr.heap.size,0,none⟩=some (.int .i64 (p:Int))∧w'.rangeAt wr.heap.size 1 (data.map B)∧w'.there bp (p * 256) (data.map B).length) ((go_split_ands;refine ⟨?_,?_,?_,?_⟩ <;> first | go_keep_ranges | go_keep)) (fail)
   go_wp2_with fail
   go_roundw
   case rel =>
    refine ⟨k+1,by omega,by go_num,?_,?_⟩
    ·have hIs:=((hIr.keeps (w':=(wr.alloc (.cells wl.toArray 147)).drew) (((Keeps.refl [] _).alloc _).drew) (by simp)).setp p data (by simpa [D.act_n] using hpn) hpl)
     have e:synced d.img (d.q.take (k+1))=setPage (synced d.img (d.q.take k)) p data:=by
      rw [List.take_succ_eq_append_getElem hlt,synced_snoc,HQ.out,HP.out]
     rw [e]
     exact hIs
    ·exact ((hkr.alloc _).drew).setCells (.inl (by simp)) _ _
   case measure=>simp [intOf];omega
  ·have f2:=hIr.free 2
   go_wp2_with fail
   have hIs:=hIr.setc { d.act with img:=synced d.img (d.q.take k),syncs:=wrap64 (d.act.syncs+1) } 2 (.int .i64 (wrap64 (d.act.syncs+1))) rfl rfl hIr.ok rfl
   refine (dClose_disk hIs).mono ?_
   rintro e w2 ⟨rfl,hI2,hk2⟩
   go_wp2_with fail
   go_ret
   refine ⟨rfl,?_,?_⟩
   ·have e:d.q.take k=d.q:=List.take_of_length_le (by omega)
    rw [e] at hI2
    simpa [D.act_syncs] using hI2
   ·exact ((hkr.mono (G:=[b,bp,bm]) (by simp)).setCell (.inl (by simp)) _).trans hk2 (by simp)
open Go.RowKit
open Go.RowKit
set_option maxRecDepth 100000 in
set_option maxHeartbeats 400000 in
theorem dWrite_ok {w:World} {b:Nat} {d:D} {bp bm:Nat} {qv:Value} (page:Nat) {g o c:Nat} {data:List UInt8} (hI:DiskIn w b d bp qv bm) (hd:d.dead=false) (hp:page < d.n) (hl:data.length=256)
  (hg:g < w.heap.size) (hr:w.rangeAt g o (data.map B)) (hc:256≤c) (hq:d.q.length < 4294967296) :
  Calls Tryz.prog 70 #[.pointer (some ⟨b,0,none⟩),.int .i64 page,.slice (some ⟨g,o,none⟩) 256 c] w fun e w'=>e=.returned (.int .i64 (if d.armed=1 then 2 else 0))∧∃ qv',DiskIn w' b (d.write page data) bp qv' bm∧Keeps (b :: bp :: bm :: qv.ownBlock.toList) w w'∧(qv'.ownBlock=qv.ownBlock∨∃ g,qv'.ownBlock=some g∧w.heap.size≤g):=by
 obtain ⟨c0,c1,c2,c3,c4,c5,c6,c7,c8,c9⟩:=hI.cells
 rw [hd] at c8
 have hp0:(0:Int)≤(page:Int):=Int.natCast_nonneg _
 have hp1:(page:Int) < (d.n:Int):=by omega
 have hh:=dHas_any (page:Int) c4
 rw [show (decide (0≤(page:Int)) && decide ((page:Int) < d.n))=true by simp [hp]] at hh
 have hbl:=lt_of_heap hI.root
 have hcopy:∀ ty,(Builtin.copy_ #[36,36] ty #[.slice (some ⟨w.heap.size,1,none⟩) 256 256,.slice (some ⟨g,o,none⟩) 256 c]).run Tryz.prog (w.alloc (.cells (zWrite page) 147))=.ok (.int .i64 256) (w.alloc (.cells (wCells page data) 147)):=by
  intro ty
  have:=run_copy_row (P:=Tryz.prog) (w.alloc (.cells (zWrite page) 147)) 36 36 ty 5 w.heap.size 1 256 256 ⟨g,o,none⟩ 256 c (zWrite page) 147 (data.map B) Tryz.underlying36 (by kernel_rfl) (heap_alloc_new _ _) (by simp [hl])
   (fun j v hv=>by rw [Addr.add_mid,World.cell?_alloc_lt _ _ _ hg];exact hr j v hv) (by rw [zWrite_size];simp [hl]) (B_one data)
  rw [this,World.setRow_alloc_new,write_cells page hl]
  simp [goInt,hl]
 obtain ⟨aq,cq,rfl⟩:=hI.form
 have hbm:=hI.map.lt
 obtain ⟨w3,hput,hmap,hgr,hsz⟩:=(hI.map.keep (w':=(w.alloc (.cells (wCells page data) 147)).drew) (heap_old_at hI.map.lt)).put (tm:=51) Tryz.underlying3 Tryz.underlying51 (by simp only [maxLen];omega)
  (show (Lit.int .i64 (page:Int)).wf=true from WalkArith.wf_i64 (by have:=hI.ok;unfold D.ok at this;omega)) (show (Lit.int .i64 (d.q.length:Int)).wf=true from WalkArith.wf_i64 (by omega))
 have hne:=hI.apart
 have hnb:b≠bm:=hne.2.1
 have far:∀ j,w3.cell? ⟨b,j,none⟩=w.cell? ⟨b,j,none⟩:=fun j=>by
  rw [hgr.cell_far _ (by simpa using Nat.lt_succ_of_lt hbl) (by simpa using hnb)]
  exact World.cell?_alloc_lt w _ ⟨b,j,none⟩ hbl
 have k1:=(far 1).trans c1
 have k3:=(far 3).trans c3
 have k5:=(far 5).trans c5
 have k6:=(far 6).trans c6
 have k7:=(far 7).trans c7
 have k8:=(far 8).trans c8
 have kf:∀ j,w3.frozen? ⟨b,j,none⟩=false:=fun j=>by
  rw [hgr.frozen_far _ (by simpa using Nat.lt_succ_of_lt hbl) (by simpa using hnb)]
  exact (World.frozen?_alloc_old w _ ⟨b,j,none⟩ (Nat.ne_of_lt hbl)).trans (hI.free j)
 have kw:w3.heap[w.heap.size]?=some (.cells (wCells page data) 147 (0,0)):=by
  rw [hgr.block _ (by simp) (by simp;omega)]
  exact heap_new_at rfl
 have kr:w3.rangeAt w.heap.size 0 (.int .i64 page :: data.map B):=rangeAt_all kw
 have hbl3:b < w3.heap.size:=by rw [hsz];simp;omega
 have kq:w3.ownsRow 0 147 257 (.slice aq d.q.length cq) d.q.length (qCells d.q):=by
  refine ownsRow_keep hI.queue (fun k hk=>?_)
  have hlt:=(hI.queue.lt k hk).2
  rw [hgr.block k (by simp;omega) (fun e=>(hne.2.2.2 k hk).2.2 (by simpa using e.symm))]
  exact heap_old_at hlt
 have HW:=Lib.hid kw
 have HF:=Lib.hid far
 have HM:=Lib.hid hmap
 have HG:=Lib.hid hgr
 clear far kw
 have HS:=Lib.hid hsz
 have kroot:w3.heap[b]?=some (.cells (dCells d bp (.slice aq d.q.length cq) bm) 53 (0,0)):=by
  rw [hgr.block b (by simp;omega) (by simpa using hnb),show (w.alloc (.cells (wCells page data) 147)).drew.heap[b]?=w.heap[b]? from heap_old_at hbl];exact hI.root
 have kpages:w3.heap[bp]?=some (.cells (d.img.map B).toArray 145 (0,0)):=by
  have hlt:=lt_of_heap hI.pages
  rw [hgr.block bp (by simp;omega) (by simpa using hne.2.2.1),show (w.alloc (.cells (wCells page data) 147)).drew.heap[bp]?=w.heap[bp]? from heap_old_at hlt];exact hI.pages
 have HKR:=Lib.hid kroot
 have HKP:=Lib.hid kpages
 have HD:=Lib.hid hd
 have HSZ:=Lib.hid hsz
 have hsz':w.heap.size+1≤w3.heap.size:=by rw [hsz];simp
 have HN:=Lib.hid hne
 clear hd hmap hgr hsz kroot kpages hne
 go_enter Tryz.func70,Tryz.ntmps70
 go_wp2_with (first | (go_at_call 88;refine hh.mono ?_;rintro e w' ⟨rfl,rfl⟩) | (refine wl_store rfl 147 (.tmp 7) (.tmp 23) rfl ?_;refine ⟨_,run_store_write _ _,?_⟩;try simp only [zA,zB,zC,zD,zE,zF,zG,zH]) | (refine wl_builtin rfl .copy #[.tmp 25,.tmp 26] #[36,36] rfl ?_;refine ⟨_,_,run_builtin_copy (hcopy _),?_⟩;try simp only [zA,zB,zC,zD,zE,zF,zG,zH]))
 go_region_held3 (fun w'=>w'.cell? ⟨b,6,none⟩=some (.map (some bm))∧w'.cell? ⟨b,5,none⟩=some (.slice aq d.q.length cq)) (go_keep) (fail)
 go_wp2_with fail
 obtain ⟨wl,hwl⟩:∃ wl,wl=Value.int .i64 (page:Int) :: data.map B:=⟨_,rfl⟩
 rw [← hwl] at kr
 have hu:=Tryz.underlying147
 have hi:(Tryz.prog.info? 147).map (·.size)=some wl.length:=by rw [size_write,hwl];simp [hl]
 have hwl1:wl.length=257:=by rw [hwl];simp [hl]
 have HWL:=Lib.hid hwl
 clear hwl
 refine rl_start (fun w'=>w'.cell? ⟨b,5,none⟩=some (.slice aq d.q.length cq)∧w'.rangeAt w.heap.size 0 wl) 10 (by kernel_rfl) ?_ (fun hHeld=>?_)
 ·exact ⟨k5,kr⟩
 refine rk 0 ?_
 refine rk 1 ?_
 refine rk 2 ?_
 refine rk 3 ?_
 refine rk 4 ?_
 refine rkb 5 rfl (yieldsIf_load_mid (by rfl) 147 (.tmp 7) rfl w.heap.size 0 rfl wl _ (fun _ h=>h.2) hu rfl hi) ?_
 refine rl_act (i:=6) (by kernel_rfl) rfl (fun K hK=>?_)
 (refine st_buildSlice rfl 50 1 #[(0,.tmp 43)] #[(0,.agg wl.toArray)] rfl (by simp [Act.eval]) ?_;refine ⟨_,_,run_buildSlice_one _ Tryz.underlying50 info_write (cs:=wl.toArray) (by simpa using hwl1) (by omega) (by omega),?_⟩;try simp only [zA,zB,zC,zD,zE,zF,zG,zH])
 refine hK.out _ _ ?_ (fun hHeld=>?_)
 ·exact ⟨(World.cell?_alloc_lt _ _ ⟨b,5,none⟩ (by simpa using hbl3)).trans hHeld.1,World.rangeAt_alloc hHeld.2 _⟩
 clear hK K
 try simp only [zA,zB,zC,zD,zE,zF,zG,zH]
 refine rl_act (i:=7) (by kernel_rfl) rfl (fun K hK=>?_)
 obtain ⟨i0,hi0,hz0,hz1,hz2⟩:=info_parts info_write
 have l1:(w3.drew.alloc (.cells wl.toArray 147)).ownsRow 0 147 257 (.slice aq d.q.length cq) d.q.length (qCells d.q):=(show w3.drew.ownsRow _ _ _ _ _ _ from kq).alloc _
 have l2:∀ j u,wl[j]?=some u→(w3.drew.alloc (.cells wl.toArray 147)).cell? ((⟨w3.heap.size,0,none⟩:Addr).add j)=some u:=World.news_of_block (cs:=wl.toArray) (t:=147) (fr:=(0,0)) (heap_new_at rfl)
 have l3:∀ u∈wl,u.oneCell'=true:=by
  rw [HWL.out]
  intro u hu'
  rcases List.mem_cons.1 hu' with rfl | hu'
  ·rfl
  ·exact B_one data u hu'
 have l4:wl.length=1 * 257:=hwl1
 have l5:(w3.drew.alloc (.cells wl.toArray 147)).heap.size=w3.heap.size+1:=by simp
 refine step_append_lies _ rfl (.tmp 42) (.tmp 44) 50 rfl 0 147 i0 (.agg Tryz.zeroCells147) 257 264 Tryz.underlying50 hi0 hz0 hz1 hz2 cells_zero_write (by omega) (.slice aq d.q.length cq) d.q.length (qCells d.q) (by rfl) l1 ⟨w3.heap.size,0,none⟩ 1 1 wl (by rfl) l4 l2 l3 (by omega) (by simp only [maxLen];omega) (by omega) (by omega) (w3.heap.size+1) l5 ?_
 intro gq cap w4 hown4 hgr4 hat4 hlt4
 have hbq:(Value.slice aq d.q.length cq).ownBlock≠some b:=fun e=>(HN.out.2.2.2 b e).1 rfl
 have far4:∀ j,w4.cell? ⟨b,j,none⟩=w3.cell? ⟨b,j,none⟩:=fun j=>by
  rw [hgr4.cell_far ⟨b,j,none⟩ (by simp;omega) (fun e=>hbq e.symm)]
  exact World.cell?_alloc_lt _ _ ⟨b,j,none⟩ (by simpa using hbl3)
 have free4:∀ j,w4.frozen? ⟨b,j,none⟩=false:=fun j=>by
  rw [hgr4.frozen_far ⟨b,j,none⟩ (by simp;omega) (fun e=>hbq e.symm)]
  exact (World.frozen?_alloc_old _ _ ⟨b,j,none⟩ (Nat.ne_of_lt (by simpa using hbl3))).trans (kf j)
 have m1:=(far4 1).trans k1
 have m3:=(far4 3).trans k3
 have m5:=(far4 5).trans k5
 have m7:=(far4 7).trans k7
 have m8:=(far4 8).trans k8
 have HF4:=Lib.hid far4
 have HOWN4:=Lib.hid hown4
 have HGR4:=Lib.hid hgr4
 have HAT4:=Lib.hid hat4
 clear far4 hown4 hgr4 hat4 l1 l2 l3 l4 l5 kq
 refine hK.out _ _ ?_ (fun hHeld=>?_)
 ·refine ⟨m5,rangeAt_of_heap kr ?_⟩
  rw [HGR4.out.block w.heap.size (by simp;omega) (fun e=>by have:=(hI.queue.lt w.heap.size e.symm).2;omega)]
  exact heap_old_at (by simpa using Nat.lt_of_succ_le hsz')
 clear hK K
 try simp only [zA,zB,zC,zD,zE,zF,zG,zH]
 refine rl_act (i:=8) (by kernel_rfl) rfl (fun K hK=>?_)
 go_simp
 refine hK.out _ _ ?_ (fun hHeld=>?_)
 ·exact hHeld
 clear hK K
 try simp only [zA,zB,zC,zD,zE,zF,zG,zH]
 refine rk 9 ?_
 refine rl_last (by kernel_rfl) (by kernel_rfl) rfl (fun K hK=>?_)
 go_simp
 refine hK.out _ _ ?_
 clear hK K
 try simp only [zA,zB,zC,zD,zE,zF,zG,zH]
 have p7:(((w4.setCell ⟨b,5,none⟩ (.slice (some ⟨gq,0,none⟩) (d.q.length+1) cap)).setCell ⟨b,1,none⟩ (.int .i64 (wrap64 (d.writes+1)))).setCell ⟨b,3,none⟩ (.int .i64 (d.q.length+1))).cell? ⟨b,7,none⟩=some (.int .i64 d.armed):=by go_simp
 have p8:(((w4.setCell ⟨b,5,none⟩ (.slice (some ⟨gq,0,none⟩) (d.q.length+1) cap)).setCell ⟨b,1,none⟩ (.int .i64 (wrap64 (d.writes+1)))).setCell ⟨b,3,none⟩ (.int .i64 (d.q.length+1))).cell? ⟨b,8,none⟩=some (.bool false):=by go_simp
 have hok:=hI.ok
 go_wp2_with fail
 refine (dAct_any p7 p8 (by go_simp) (by go_simp) hok.2.2.2.2.1 hok.2.2.2.2.2).mono ?_
 rintro e w5 ⟨rfl,hw5⟩
 have HW5:=Lib.hid hw5
 clear hw5
 go_wp2_with fail
 all_goals
  go_ret
  refine ⟨rfl,.slice (some ⟨gq,0,none⟩) (d.q.length+1) cap,?_⟩
  obtain ⟨a1,a2,a3,a4⟩:=HN.out
  have hg4:=HGR4.out
  have hg3:=HG.out
  have hq4:∀ k,(Value.slice aq d.q.length cq).ownBlock=some k→k < w.heap.size:=fun k hk=>(hI.queue.lt k hk).2
  have root4:w4.heap[b]?=some (.cells (dCells d bp (.slice aq d.q.length cq) bm) 53 (0,0)):=by
   rw [hg4.block b (by simp;omega) (fun e=>hbq e.symm),show (w3.drew.alloc (.cells wl.toArray 147)).heap[b]?=w3.heap[b]? from heap_old_at hbl3];exact HKR.out
  have lp:=lt_of_heap hI.pages
  have pages4:w4.heap[bp]?=some (.cells (d.img.map B).toArray 145 (0,0)):=by
   rw [hg4.block bp (by simp;omega) (fun e=>(a4 bp e.symm).2.1 rfl),show (w3.drew.alloc (.cells wl.toArray 147)).heap[bp]?=w3.heap[bp]? from heap_old_at (by show bp < w3.heap.size;omega)];exact HKP.out
  have map4:IMap Tryz.prog w4 3 bm (d.q++[(page,data)]).length (newest (d.q++[(page,data)])):=by
   rw [newest_snoc,List.length_append]
   refine HM.out.keep ?_
   rw [hg4.block bm (by simp;omega) (fun e=>(a4 bm e.symm).2.2 rfl)]
   exact heap_old_at (by show bm < w3.heap.size;omega)
  have own4:w4.ownsRow 0 147 257 (.slice (some ⟨gq,0,none⟩) (d.q.length+1) cap) (d.q++[(page,data)]).length (qCells (d.q++[(page,data)])):=by
   rw [qCells_snoc,List.length_append,← HWL.out]
   exact HOWN4.out
  have hok1:D.ok { d with q:=d.q++[(page,data)],writes:=wrap64 (d.writes+1) }:=by
   obtain ⟨o1,o2,o3,o4,o5,o6⟩:=hok
   refine ⟨o1,o2,o3,?_,o5,o6⟩
   intro p hp'
   rcases List.mem_append.1 hp' with hp' | hp'
   ·exact o4 p hp'
   ·obtain rfl:p=(page,data):=by simpa using hp'
    exact ⟨hp,hl⟩
  have hat:gq≠b:=by
   rcases HAT4.out with e | e
   ·intro e';subst e';exact hbq e
   ·omega
  have hin:=write_close (d:=d) (d1:={ d with q:=d.q++[(page,data)],writes:=wrap64 (d.writes+1) }) hok1 root4 pages4 own4 map4 a1 a2 (by simpa [Value.ownBlock] using hat) (wrap64 (d.writes+1)) (d.q.length+1) rfl (by simp)
  obtain ⟨hact,hk5⟩:=act_close hin HD.out HW5.out
  refine ⟨hact,?_,?_⟩
  ·have k3:Keeps (b :: bp :: bm :: (Value.slice aq d.q.length cq).ownBlock.toList) w w3:=(((Keeps.refl _ _).alloc _).drew).grown hg3 (by simp)
   have k4:Keeps (b :: bp :: bm :: (Value.slice aq d.q.length cq).ownBlock.toList) w w4:=((k3.drew).alloc _).grown hg4 (fun k hk=>.inl (by simp [hk]))
   exact (((k4.setCell (.inl (by simp)) _).setCell (.inl (by simp)) _).setCell (.inl (by simp)) _).trans hk5 (by simp)
  ·rcases HAT4.out with e | e
   ·exact .inl e.symm
   ·exact .inr ⟨gq,rfl,by omega⟩
open Go.RowKit
structure Nd where
 b:Nat
 o:Nat
deriving DecidableEq
def Nd.prv (x:Nd):Addr:=⟨x.b,x.o+4,none⟩
def Nd.nxt (x:Nd):Addr:=⟨x.b,x.o+5,none⟩
def Nd.v (x:Nd):Value:=.pointer (some ⟨x.b,x.o,none⟩)
def Nd.off (x y:Nd):Prop:=x.b≠y.b∨x.o+2≤y.o∨y.o+2≤x.o
def Link (w:World) (x y:Nd):Prop:=w.cell? x.nxt=some y.v∧w.cell? y.prv=some x.v
def Seg (w:World):Nd→List Nd→Prop
 | _,[]=>True
 | x,y :: l=>Link w x y∧Seg w y l
def lastOf:Nd→List Nd→Nd
 | x,[]=>x
 | _,y :: l=>lastOf y l
structure Ring (w:World) (r:Nd) (l:List Nd):Prop where
 seg:Seg w r l
 back:Link w (lastOf r l) r
 apart:(r :: l).Pairwise Nd.off
theorem lastOf_mem (x:Nd):∀ l,lastOf x l∈x :: l:=by
 intro l
 induction l generalizing x with
 | nil=>simp [lastOf]
 | cons y l ih=>exact List.mem_cons_of_mem _ (ih y)
theorem lastOf_snoc (x:Nd):∀ l y,lastOf x (l++[y])=y:=by
 intro l
 induction l generalizing x with
 | nil=>intro y;rfl
 | cons z l ih=>intro y;exact ih z y
theorem Seg_append {w:World} {x:Nd} {l:List Nd} {y:Nd} {m:List Nd}:Seg w x (l++y :: m)↔Seg w x l∧Link w (lastOf x l) y∧Seg w y m:=by
 induction l generalizing x with
 | nil=>simp [Seg,lastOf]
 | cons z l ih=>simp only [List.cons_append,Seg,lastOf,ih,and_assoc]
theorem Seg_congr {w w':World} {x:Nd} {l:List Nd} (h:Seg w x l) (hn:∀ y∈x :: l,y≠lastOf x l→w'.cell? y.nxt=w.cell? y.nxt) (hp:∀ y∈l,w'.cell? y.prv=w.cell? y.prv) (ha:(x :: l).Pairwise Nd.off):Seg w' x l:=by
 induction l generalizing x with
 | nil=>trivial
 | cons z l ih =>
  obtain ⟨⟨h1,h2⟩,h3⟩:=h
  have hne:x≠lastOf z l:=fun e=>by
   have:=(List.pairwise_cons.1 ha).1 _ (lastOf_mem z l)
   rw [← e] at this
   unfold Nd.off at this
   omega
  refine ⟨⟨(hn x (by simp) hne).trans h1,(hp z (by simp)).trans h2⟩,ih h3 (fun y hy hyl=>hn y (List.mem_cons_of_mem _ hy) hyl) (fun y hy=>hp y (List.mem_cons_of_mem _ hy)) (List.pairwise_cons.1 ha).2⟩
theorem Ring.congr {w w':World} {r:Nd} {l:List Nd} (h:Ring w r l) (hc:∀ y∈r :: l,w'.cell? y.nxt=w.cell? y.nxt∧w'.cell? y.prv=w.cell? y.prv):Ring w' r l :=
 ⟨Seg_congr h.seg (fun y hy _=>(hc y hy).1) (fun y hy=>(hc y (List.mem_cons_of_mem _ hy)).2) h.apart,
  ⟨(hc _ (lastOf_mem r l)).1.trans h.back.1,(hc r (by simp)).2.trans h.back.2⟩,h.apart⟩
theorem Ring.last {w w':World} {r e:Nd} {l:List Nd} (h:Ring w r l) (he:∀ y∈r :: l,y.off e) (c1:w'.cell? e.prv=some (lastOf r l).v) (c2:w'.cell? e.nxt=some r.v) (c3:w'.cell? (lastOf r l).nxt=some e.v) (c4:w'.cell? r.prv=some e.v)
  (hn:∀ y∈r :: l,y≠lastOf r l→w'.cell? y.nxt=w.cell? y.nxt) (hp:∀ y∈l,w'.cell? y.prv=w.cell? y.prv):Ring w' r (l++[e]):=by
 refine ⟨Seg_append.2 ⟨Seg_congr h.seg hn hp h.apart,⟨c3,c1⟩,trivial⟩,?_,?_⟩
 ·rw [lastOf_snoc];exact ⟨c2,c4⟩
 ·rw [← List.cons_append,List.pairwise_append]
  exact ⟨h.apart,by simp,fun y hy z hz=>by
    obtain rfl:z=e:=by simpa using hz
    exact he y hy⟩
theorem Ring.start {w:World} {r:Nd} (c1:w.cell? r.nxt=some r.v) (c2:w.cell? r.prv=some r.v):Ring w r []:=⟨trivial,⟨c1,c2⟩,by simp⟩
open Go.RowKit Go.ChangeMaps Go.MapKept
open Go.Maps (Keyed int_keyed keyOf_int_mk)
def ptrElem:Value→Option (DataW Unit × List MemPlace)
 | .pointer none=>some (.lit (.int .i64 (-1)),[])
 | .pointer (some ⟨b,0,none⟩)=>some (.lit (.int .i64 b),[])
 | _=>none
theorem ptrElem_nil:ptrElem (.pointer none)=some (.lit (.int .i64 (-1)),[]):=rfl
theorem ptrElem_some (b:Nat):ptrElem (.pointer (some ⟨b,0,none⟩))=some (.lit (.int .i64 b),[]):=rfl
theorem ptrElem_inv {v:Value} {i:Int} {ps:List MemPlace} (h:ptrElem v=some (.lit (.int .i64 i),ps)):(i=-1∧v=.pointer none)∨∃ b:Nat,i=b∧v=.pointer (some ⟨b,0,none⟩):=by
 unfold ptrElem at h
 split at h
 ·simp only [Option.some.injEq,Prod.mk.injEq,DataW.lit.injEq,Lit.int.injEq] at h
  exact .inl ⟨h.1.2.symm,rfl⟩
 ·rename_i b
  simp only [Option.some.injEq,Prod.mk.injEq,DataW.lit.injEq,Lit.int.injEq] at h
  exact .inr ⟨b,h.1.2.symm,rfl⟩
 ·cases h
def ptrOf:Option Nat→Value
 | some b=>.pointer (some ⟨b,0,none⟩)
 | none=>.pointer none
def PMap (P:Program) (w:World) (ti:TypeId) (b n:Nat) (f:Int→Option Nat):Prop :=
 ∃ D:DataW Unit,w.ownsMap P ti ptrElem b n D∧∀ k,(Lit.int .i64 k).wf=true→Maps.has D (.int .i64 k)=(f k).isSome∧∀ z,D.atKey (.int .i64 k) z=match f k with | some v=>.lit (.int .i64 v) | none=>z
section
variable {P:Program} {w w':World} {ti tm te:TypeId} {b n:Nat} {f:Int→Option Nat}
theorem PMap.lt (h:PMap P w ti b n f):b < w.heap.size:=by obtain ⟨D,h,_⟩:=h;exact h.lt
theorem PMap.keep (h:PMap P w ti b n f) (hb:w'.heap[b]?=w.heap[b]?):PMap P w' ti b n f:=by
 obtain ⟨D,⟨es,clock,h1,h2⟩,h3⟩:=h
 exact ⟨D,⟨es,clock,hb.trans h1,h2⟩,h3⟩
theorem PMap.isMap (h:PMap P w ti b n f):∃ es clock,w.heap[b]?=some (.map es clock):=by
 obtain ⟨D,⟨es,clock,h1,h2⟩,h3⟩:=h
 exact ⟨es,clock,h1⟩
theorem PMap.congr {f':Int→Option Nat} (h:PMap P w ti b n f) (hf:∀ k,(Lit.int .i64 k).wf=true→f' k=f k):PMap P w ti b n f':=by
 obtain ⟨D,h,h3⟩:=h
 exact ⟨D,h,fun k hk=>by rw [hf k hk];exact h3 k hk⟩
theorem PMap_empty {es:Array MapEntry} (clock:Nat) (he:es=#[]) (hb:w.heap[b]?=some (.map es clock)):PMap P w ti b 0 (fun _=>none):=by
 subst he
 refine ⟨.map [],⟨#[],clock,hb,⟨by simp,stamped_empty clock,by simp⟩,Nat.le_refl _,rfl⟩,fun k _=>⟨rfl,fun z=>rfl⟩⟩
theorem PMap.look (h:PMap P w ti b n f) (hi:P.underlying ti=some (.int .i64)) (ht:P.underlying tm=some (.map ti te)) (hz:(zeroValue te).run P w=.ok (.pointer none) w) {k:Int} (hk:(Lit.int .i64 k).wf=true) :
  (Instr.lookup tm (.map (some b)) (.int .i64 k) false).run P w=.ok (ptrOf (f k)) w:=by
 obtain ⟨D,h,h3⟩:=h
 obtain ⟨v,ps,hrun,hv⟩:=h.lookup (int_keyed hi) ht hz ptrElem_nil (keyOf_int_mk hi hk)
 rw [hrun]
 have e:=(h3 k hk).2 (.lit (.int .i64 (-1)))
 rw [e] at hv
 cases hf:f k with
 | none =>
  rw [hf] at hv
  rcases ptrElem_inv hv with ⟨_,rfl⟩ | ⟨b',hb',_⟩
  ·rfl
  ·omega
 | some x =>
  rw [hf] at hv
  rcases ptrElem_inv hv with ⟨hb',_⟩ | ⟨b',hb',rfl⟩
  ·omega
  ·have:x=b':=by omega
   subst this
   rfl
theorem PMap.put (h:PMap P w ti b n f) (hi:P.underlying ti=some (.int .i64)) (ht:P.underlying tm=some (.map ti te)) (hn:n < maxLen) {k:Int} {v:Nat} (hk:(Lit.int .i64 k).wf=true) :
  ∃ w',(Instr.mapUpdate tm (.map (some b)) (.int .i64 k) (.pointer (some ⟨v,0,none⟩))).run P w=.ok () w'∧PMap P w' ti b (n+1) (fun j=>if j=k then some v else f j)∧w.grownBy w' (some b)∧w'.heap.size=w.heap.size:=by
 obtain ⟨D,h,h3⟩:=h
 obtain ⟨w',hrun,hown,hturn⟩:=h.store (int_keyed hi) ht hn (keyOf_int_mk hi hk) (ptrElem_some v)
 have hs:w'.heap.size=w.heap.size:=by
  obtain ⟨_,_,_,_,_,rfl⟩:=hturn
  simp [setBlock]
 refine ⟨w',hrun,⟨_,hown,fun j hj=>?_⟩,hturn.grown,hs⟩
 have hM:=h.isMap
 by_cases e:j=k
 ·subst e
  refine ⟨?_,fun z=>?_⟩
  ·simp only [if_true]
   exact Maps.has_put_same hM (by first | exact ⟨_,_,rfl,hk⟩ | simp [WideAt.IsKeyLit]) _
  ·simp only [if_true]
   exact Maps.atKey_put_same hM (by first | exact ⟨_,_,rfl,hk⟩ | simp [WideAt.IsKeyLit]) _ _
 ·have hne:(Lit.int .i64 j)≠.int .i64 k:=fun he=>e (by simpa using he)
  refine ⟨?_,fun z=>?_⟩
  ·rw [Maps.has_put_other hne];simp only [if_neg e];exact (h3 j hj).1
  ·rw [Maps.atKey_put_other hne];simp only [if_neg e];exact (h3 j hj).2 z
end
end Go.Proofs.YtakaocenbempmaaGreatDoor
