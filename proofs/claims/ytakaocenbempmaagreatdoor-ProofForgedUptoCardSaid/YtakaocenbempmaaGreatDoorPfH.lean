/-
  Lemmas of a claim, bundle H: XCa XCb XCc XCq.
-/
import Derived.Lib.Strings
import Derived.Lib.Slices
import Derived.Lib.Small
import Derived.Lib.Walk
import Derived.Lib.BitFns
import Derived.Test.YtakaocenbempmaaGreatDoorPfB
set_option linter.unusedVariables false
set_option linter.unusedSimpArgs false
namespace Go.Proofs.YtakaocenbempmaaGreatDoor
open Go.RowKit
structure Pf where
 found:Bool
 val:List UInt8
 bits:List UInt8
 sums:List (List UInt8)
def Pf.ok (p:Pf):Prop:=p.bits.length=32∧∀ s∈p.sums,s.length=32
def sumCells (l:List (List UInt8)):List Value:=l.flatMap fun s=>s.map B
def SumsAt (w:World) (v:Value) (l:List (List UInt8)):Prop :=
 (l=[]∧∃ a c,v=.slice a 0 c∧c≤maxLen)∨∃ g o cap,v=.slice (some ⟨g,o,none⟩) l.length cap∧l.length≤cap∧cap≤maxLen∧g < w.heap.size∧w.rangeAt g o (sumCells l)
def pfCells (p:Pf) (vv sv:Value):List Value:=.bool p.found :: vv :: (p.bits.map B++[sv])
theorem size_32:(Tryz.prog.info? 54).map (·.size)=some 32:=by kernel_rfl
theorem size_32_of {l:List UInt8} (h:l.length=32):(Tryz.prog.info? 54).map (·.size)=some (l.map B).length:=by rw [size_32,List.length_map,h]
open Go.RowKit
set_option maxRecDepth 100000 in
theorem sameBytes_any {w:World} {v1 v2:Value} {l1 l2:List UInt8} (h1:BytesAt w v1 l1) (h2:BytesAt w v2 l2) :
  Calls Tryz.prog 38 #[v1,v2] w fun e w'=>e=.returned (.bool (l1 == l2))∧Keeps [] w w':=by
 obtain ⟨a1,c1,rfl,hc1,hm1⟩:=h1.form
 obtain ⟨a2,c2,rfl,hc2,hm2⟩:=h2.form
 unfold maxLen at hm1 hm2
 by_cases hl:l1.length=l2.length
 ·have hb:((l1.length:Int) != l2.length)=false:=by simp;omega
  go_enter Tryz.func38,Tryz.ntmps38
  go_wp2_with fail
  go_loopw [5] (fun i wr=>∃ k:Nat,k≤l1.length∧i=.int .i64 k∧l1.take k=l2.take k∧Keeps [] w wr) (fun i _=>l1.length - (intOf i).toNat)
  case atStart=>exact ⟨0,Nat.zero_le _,rfl,by simp,Keeps.refl _ _⟩
  case round =>
   obtain ⟨k,hk,rfl,heq,hkr⟩:=hrel
   by_cases hlt:k < l1.length
   ·obtain ⟨g1,o1,rfl,hg1,hr1⟩:∃ g o,a1=some ⟨g,o,none⟩∧g < w.heap.size∧w.rangeAt g o (l1.map B):=by
     rcases h1 with ⟨h0,_⟩ | ⟨g,o,cap,hv,_,_,h3,h4⟩
     ·subst h0;simp at hlt
     ·injection hv with e _ _
      exact ⟨g,o,e,h3,h4⟩
    obtain ⟨g2,o2,rfl,hg2,hr2⟩:∃ g o,a2=some ⟨g,o,none⟩∧g < w.heap.size∧w.rangeAt g o (l2.map B):=by
     rcases h2 with ⟨h0,_⟩ | ⟨g,o,cap,hv,_,_,h3,h4⟩
     ·subst h0;simp only [List.length_nil] at hl;omega
     ·injection hv with e _ _
      exact ⟨g,o,e,h3,h4⟩
    have hlt2:k < l2.length:=by omega
    obtain ⟨x,hx⟩:∃ x,x=l1[k]:=⟨_,rfl⟩
    obtain ⟨y,hy⟩:∃ y,y=l2[k]:=⟨_,rfl⟩
    have e1:wr.cell? ⟨g1,o1+k,none⟩=some (.int .u8 x.toNat):=by
     rw [World.cell?_of_block (w:=w) (w':=wr) (a:=⟨g1,o1+k,none⟩) (hkr.block g1 hg1 (by simp)),hx]
     exact hr1 k _ (by simp [hlt,B])
    have e2:wr.cell? ⟨g2,o2+k,none⟩=some (.int .u8 y.toNat):=by
     rw [World.cell?_of_block (w:=w) (w':=wr) (a:=⟨g2,o2+k,none⟩) (hkr.block g2 hg2 (by simp)),hy]
     exact hr2 k _ (by simp [hlt2,B])
    have b0:(0:Int)≤(k:Int):=by omega
    have b1:(k:Int) < (l1.length:Int):=by omega
    have b2:(k:Int) < (l2.length:Int):=by omega
    have HX:=Lib.hid hx
    have HY:=Lib.hid hy
    have HE:=Lib.hid heq
    have HL:=Lib.hid hl
    clear hx hy heq hl h1 h2
    by_cases hxy:x=y
    ·subst hxy
     have t1:((x.toNat:Int) != x.toNat)=false:=by simp
     go_wp2_with fail
     go_quiet (fail)
     go_wp2_with fail
     go_roundw
     case rel =>
      refine ⟨k+1,by omega,by go_num,?_,hkr.drewN _⟩
      rw [List.take_succ_eq_append_getElem hlt,List.take_succ_eq_append_getElem hlt2,HE.out,← HX.out,← HY.out]
     case measure=>simp [intOf];omega
    ·have t1:((x.toNat:Int) != y.toNat)=true:=by
      simp only [bne_iff_ne,ne_eq]
      intro e
      exact hxy (UInt8.toNat_inj.1 (by omega))
     go_wp2_with fail
     go_quiet (fail)
     go_wp2_with fail
     go_ret
     refine ⟨?_,hkr.drewN _⟩
     have:l1≠l2:=by
      rintro rfl
      exact hxy (HX.out.trans HY.out.symm)
     simp [this]
   ·have e:k=l1.length:=by omega
    have HE:=Lib.hid heq
    have HL:=Lib.hid hl
    clear heq hl
    go_wp2_with fail
    go_ret
    refine ⟨?_,hkr⟩
    have h:=HE.out
    rw [e,List.take_length,HL.out,List.take_length] at h
    simp [h]
 ·have hb:((l1.length:Int) != l2.length)=true:=by simp;omega
  go_enter Tryz.func38,Tryz.ntmps38
  go_wp2_with fail
  go_ret
  refine ⟨?_,Keeps.refl _ _⟩
  have:l1≠l2:=by rintro rfl;exact hl rfl
  simp [this]
set_option maxRecDepth 100000 in
theorem copyBytes_any {w:World} {v:Value} {l:List UInt8} (hv:BytesAt w v l) (hl:l.length≤2097152) :
  Calls Tryz.prog 7 #[v] w fun e w'=>∃ v',e=.returned v'∧OwnB w' v' l∧(∀ k,v'.ownBlock=some k→w.heap.size≤k)∧Keeps [] w w':=by
 obtain ⟨a,c,rfl,hc,hm⟩:=hv.form
 unfold maxLen at hm
 obtain ⟨i0,hi0,hz0,hz1,hz2⟩:=info_parts info_u8
 have HI0:=Lib.hid hi0
 have HZ0:=Lib.hid hz0
 have HZ1:=Lib.hid hz1
 have HZ2:=Lib.hid hz2
 have HV:=Lib.hid hv
 clear hi0 hz0 hz1 hz2 hv
 go_enter Tryz.func7,Tryz.ntmps7
 go_wp2_with fail
 go_loopw [3,4] (fun v i wr=>∃ k:Nat,k≤l.length∧i=.int .i64 k∧wr.ownsRow w.heap.size 5 1 v k ((l.take k).map B)∧Keeps [] w wr) (fun _ i _=>l.length - (intOf i).toNat)
 case atStart=>exact ⟨0,Nat.zero_le _,rfl,World.ownsRow_nil _ _ _ _,Keeps.refl _ _⟩
 case round =>
  obtain ⟨k,hk,rfl,hown,hkr⟩:=hrel
  have hov:=hown.lt
  have HOWN:=Lib.hid hown
  have hsz:=hkr.size
  clear hown
  by_cases hlt:k < l.length
  ·obtain ⟨g,o,rfl,hg,hr⟩:=HV.out.at (by omega)
   obtain ⟨x,hx⟩:∃ x,l[k]?=some x:=⟨l[k],List.getElem?_eq_getElem hlt⟩
   have e1:=range_byte (w':=wr) hr (hkr.block g hg (by simp)) hx
   have b0:(0:Int)≤(k:Int):=by omega
   have b1:(k:Int) < (l.length:Int):=by omega
   have HX:=Lib.hid hx
   clear hx hr
   go_wp2_with (refine wpList_append_lies _ rfl (.tmp 11) (.tmp 16) 36 rfl w.heap.size 5 i0 (.int .u8 0) 1 1 Tryz.underlying36 HI0.out HZ0.out HZ1.out HZ2.out rfl (by omega) _ k _ rfl (HOWN.out.alloc _) ⟨wr.heap.size,0,none⟩ 1 1 [.int .u8 x.toNat] rfl rfl (World.news_of_block (cs:=#[.int .u8 x.toNat]) (t:=5) (fr:=(0,0)) (heap_new_at rfl)) (by simp [Value.oneCell']) (by omega) (by simp only [maxLen];omega) (by omega) (by simp;omega) _ rfl ?_)
   intro g2 cap wn h1 h2 h3 h4
   go_wp2_with fail
   go_roundw
   case rel =>
    refine ⟨k+1,by omega,by go_num,?_,(hkr.alloc _).grown h2 (fun j hj=>.inr (hov j hj).1)⟩
    rw [List.take_add_one,HX.out,List.map_append,List.map_take]
    exact h1
   case measure=>simp [intOf];omega
  ·have e:k=l.length:=by omega
   subst e
   go_wp2_with fail
   go_ret
   have h:=HOWN.out
   rw [List.take_length] at h
   exact ⟨_,rfl,ownsRow_base h,fun j hj=>(hov j hj).1,hkr⟩
theorem pf_bit_cell {w:World} {b:Nat} {p:Pf} {vv sv:Value} {t:TypeId} (h:w.heap[b]?=some (.cells (pfCells p vv sv).toArray t (0,0))) (hl:p.bits.length=32) {k:Nat} (hk:k < 32) {x:UInt8} (hx:p.bits[k]?=some x) :
  w.cell? ⟨b,2+k,none⟩=some (.int .u8 x.toNat):=by
 rw [cell_of_row w b _ _ _ _ h,List.getElem?_toArray,pfCells,show 2+k=k+1+1 from by omega,List.getElem?_cons_succ,List.getElem?_cons_succ,List.getElem?_append_left (by rw [List.length_map,hl];exact hk),List.getElem?_map,hx]
 rfl
theorem pf_cells {w:World} {b:Nat} {p:Pf} {vv sv:Value} {t:TypeId} (h:w.heap[b]?=some (.cells (pfCells p vv sv).toArray t (0,0))) (hl:p.bits.length=32) :
  w.cell? ⟨b,0,none⟩=some (.bool p.found)∧w.cell? ⟨b,1,none⟩=some vv∧w.cell? ⟨b,34,none⟩=some sv:=by
 refine ⟨by rw [cell_of_row w b _ _ _ _ h];rfl,by rw [cell_of_row w b _ _ _ _ h];rfl,?_⟩
 rw [cell_of_row w b _ _ _ _ h,List.getElem?_toArray,pfCells,List.getElem?_cons_succ,List.getElem?_cons_succ,List.getElem?_append_right (by rw [List.length_map,hl];exact Nat.le_refl _),List.length_map,hl]
 rfl
open Go.RowKit
theorem SumsAt.form {w:World} {v:Value} {l:List (List UInt8)} (h:SumsAt w v l):∃ a c,v=.slice a l.length c∧l.length≤c∧c≤maxLen:=by
 rcases h with ⟨rfl,a,c,rfl,hc⟩ | ⟨g,o,cap,rfl,h1,h2,_⟩
 ·exact ⟨a,c,rfl,Nat.zero_le _,hc⟩
 ·exact ⟨_,_,rfl,h1,h2⟩
theorem SumsAt.at {w:World} {a:Option Addr} {n c:Nat} {l:List (List UInt8)} (h:SumsAt w (.slice a n c) l) (hn:0 < l.length):∃ g o,a=some ⟨g,o,none⟩∧g < w.heap.size∧w.rangeAt g o (sumCells l):=by
 rcases h with ⟨h0,_⟩ | ⟨g,o,cap,hv,_,_,h3,h4⟩
 ·subst h0;simp at hn
 ·injection hv with e _ _
  exact ⟨g,o,e,h3,h4⟩
theorem SumsAt.of_heap {w w':World} {v:Value} {l:List (List UInt8)} (h:SumsAt w v l) (hs:w.heap.size≤w'.heap.size) (hd:∀ k,v.elemBlock=some k→k < w.heap.size→w'.heap[k]?=w.heap[k]?):SumsAt w' v l:=by
 rcases h with h | ⟨g,o,cap,rfl,h1,h2,h3,h4⟩
 ·exact .inl h
 ·match l with
  | []=>exact .inl ⟨rfl,_,_,rfl,h2⟩
  | x :: l=>exact .inr ⟨g,o,cap,rfl,h1,h2,Nat.lt_of_lt_of_le h3 hs,rangeAt_of_heap h4 (hd g rfl h3)⟩
theorem SumsAt.keeps {F:List Nat} {w w':World} {v:Value} {l:List (List UInt8)} (h:SumsAt w v l) (hk:Keeps F w w') (hd:∀ k,v.elemBlock=some k→k ∉ F):SumsAt w' v l :=
 h.of_heap hk.size (fun k hk' hlt=>hk.block k hlt (hd k hk'))
theorem sum_at {l:List (List UInt8)} (hw:∀ s∈l,s.length=32) {k:Nat} (hk:k < l.length):∃ xs zs,sumCells l=xs++l[k].map B++zs∧xs.length=k * 32:=by
 have e:l=l.take k++l[k] :: l.drop (k+1):=by simp
 have e2:=congrArg sumCells e
 simp only [sumCells,List.flatMap_append,List.flatMap_cons] at e2
 refine ⟨sumCells (l.take k),sumCells (l.drop (k+1)),by unfold sumCells;rw [List.append_assoc];exact e2,?_⟩
 have:∀ r:List (List UInt8),(∀ s∈r,s.length=32)→(sumCells r).length=r.length * 32:=by
  intro r
  induction r with
  | nil=>simp [sumCells]
  | cons x r ih =>
   intro h
   have h1:=ih (fun p hp=>h p (by simp [hp]))
   have h2:=h x (by simp)
   simp only [sumCells,List.flatMap_cons,List.length_append,List.length_cons,List.length_map] at h1 ⊢
   omega
 rw [this _ (fun p hp=>hw p (List.mem_of_mem_take hp))]
 simp
 omega
theorem range_part {w:World} {g o:Nat} {xs ys zs:List Value} (h:w.rangeAt g o (xs++ys++zs)):w.rangeAt g (o+xs.length) ys:=fun j v hv=>by
 rw [Nat.add_assoc]
 refine h (xs.length+j) v ?_
 have hj:=(List.getElem?_eq_some_iff.1 hv).1
 rw [List.getElem?_append_left (by simp;omega),List.getElem?_append_right (by omega)]
 simpa using hv
theorem SumsAt.row {w w':World} {g o:Nat} {l:List (List UInt8)} (h:w.rangeAt g o (sumCells l)) (hw:∀ s∈l,s.length=32) {k:Nat} (hk:k < l.length) (hb:w'.heap[g]?=w.heap[g]?):w'.rangeAt g (o+k * 32) (l[k].map B):=by
 obtain ⟨xs,zs,e,hl⟩:=sum_at hw hk
 rw [← hl]
 rw [e] at h
 exact rangeAt_of_heap (range_part h) hb
def PfIn (w:World) (v:Value) (p:Pf):Prop:=∃ vv sv,v=.agg (pfCells p vv sv).toArray∧BytesAt w vv p.val∧SumsAt w sv p.sums∧p.ok
theorem PfIn.keeps {w w':World} {v:Value} {p:Pf} (h:PfIn w v p) (hk:Keeps [] w w'):PfIn w' v p:=by
 obtain ⟨vv,sv,rfl,h1,h2,h3⟩:=h
 exact ⟨vv,sv,rfl,h1.keeps hk (by simp),h2.keeps hk (by simp),h3⟩
theorem size_proof:(Tryz.prog.info? 57).map (·.size)=some 35:=by kernel_rfl
theorem pf_length {p:Pf} (h:p.bits.length=32) (vv sv:Value):(pfCells p vv sv).length=35:=by simp [pfCells,h]
open Go.RowKit
set_option maxRecDepth 100000 in
theorem refBytes_any {w:World} {v:Value} {l:List UInt8} (hv:BytesAt w v l) (hl:l.length≤2097152) :
  Calls Tryz.prog 32 #[v] w fun e w'=>∃ v',e=.returned v'∧OwnB w' v' l∧(∀ k,v'.ownBlock=some k→w.heap.size≤k)∧Keeps [] w w':=by
 obtain ⟨a,c,rfl,hc,hm⟩:=hv.form
 unfold maxLen at hm
 obtain ⟨i0,hi0,hz0,hz1,hz2⟩:=info_parts info_u8
 have HI0:=Lib.hid hi0
 have HZ0:=Lib.hid hz0
 have HZ1:=Lib.hid hz1
 have HZ2:=Lib.hid hz2
 have HV:=Lib.hid hv
 clear hi0 hz0 hz1 hz2 hv
 go_enter Tryz.func32,Tryz.ntmps32
 go_wp2_with fail
 go_loopw [3,4] (fun v i wr=>∃ k:Nat,k≤l.length∧i=.int .i64 k∧wr.ownsRow w.heap.size 5 1 v k ((l.take k).map B)∧Keeps [] w wr) (fun _ i _=>l.length - (intOf i).toNat)
 case atStart=>exact ⟨0,Nat.zero_le _,rfl,World.ownsRow_nil _ _ _ _,Keeps.refl _ _⟩
 case round =>
  obtain ⟨k,hk,rfl,hown,hkr⟩:=hrel
  have hov:=hown.lt
  have HOWN:=Lib.hid hown
  have hsz:=hkr.size
  clear hown
  by_cases hlt:k < l.length
  ·obtain ⟨g,o,rfl,hg,hr⟩:=HV.out.at (by omega)
   obtain ⟨x,hx⟩:∃ x,l[k]?=some x:=⟨l[k],List.getElem?_eq_getElem hlt⟩
   have e1:=range_byte (w':=wr) hr (hkr.block g hg (by simp)) hx
   have b0:(0:Int)≤(k:Int):=by omega
   have b1:(k:Int) < (l.length:Int):=by omega
   have HX:=Lib.hid hx
   clear hx hr
   go_wp2_with (refine wpList_append_lies _ rfl (.tmp 11) (.tmp 16) 36 rfl w.heap.size 5 i0 (.int .u8 0) 1 1 Tryz.underlying36 HI0.out HZ0.out HZ1.out HZ2.out rfl (by omega) _ k _ rfl (HOWN.out.alloc _) ⟨wr.heap.size,0,none⟩ 1 1 [.int .u8 x.toNat] rfl rfl (World.news_of_block (cs:=#[.int .u8 x.toNat]) (t:=5) (fr:=(0,0)) (heap_new_at rfl)) (by simp [Value.oneCell']) (by omega) (by simp only [maxLen];omega) (by omega) (by simp;omega) _ rfl ?_)
   intro g2 cap wn h1 h2 h3 h4
   go_wp2_with fail
   go_roundw
   case rel =>
    refine ⟨k+1,by omega,by go_num,?_,(hkr.alloc _).grown h2 (fun j hj=>.inr (hov j hj).1)⟩
    rw [List.take_add_one,HX.out,List.map_append,List.map_take]
    exact h1
   case measure=>simp [intOf];omega
  ·have e:k=l.length:=by omega
   subst e
   go_wp2_with fail
   go_ret
   have h:=HOWN.out
   rw [List.take_length] at h
   exact ⟨_,rfl,ownsRow_base h,fun j hj=>(hov j hj).1,hkr⟩
end Go.Proofs.YtakaocenbempmaaGreatDoor
