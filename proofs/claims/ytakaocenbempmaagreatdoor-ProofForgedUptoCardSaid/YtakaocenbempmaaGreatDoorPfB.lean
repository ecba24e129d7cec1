/-
  Lemmas of a claim, bundle B: XBase XOps XReg XRegC XLive XOwn XEq.
-/
import Derived.Test.YtakaocenbempmaaGreatDoorRows
import Derived.WalkKit
import Derived.WalkSpells
import Derived.WalkLawsBesides
import Derived.BigQuiet
import Derived.Deep.QuietTactic
import Derived.Deep.RegionHeld3
import Derived.Deep.AppendLies
import Derived.Deep.MidRow
import Derived.Deep.WholeRow
import Derived.Deep.DrawnRows
import Derived.StillTailTactics
import Derived.Maps.OwnSet
import Derived.Maps.OwnOps
import Derived.Lib.Hide
import Derived.Laws.StructEq
set_option linter.unusedVariables false
set_option linter.unusedSimpArgs false
namespace Go.Proofs.YtakaocenbempmaaGreatDoor
open Go.RowKit Go.ChangeMaps Go.MapKept
open Go.Maps (Keyed int_keyed keyOf_int_mk)
structure Keeps (F:List Nat) (w w':World):Prop where
 os:w'.os=w.os
 tape:w'.tape=w.tape
 output:w'.output=w.output
 size:w.heap.size≤w'.heap.size
 block:∀ k,k < w.heap.size→k ∉ F→w'.heap[k]?=w.heap[k]?
namespace Keeps
variable {F G:List Nat} {a w w' w1 w2:World}
theorem refl (F:List Nat) (w:World):Keeps F w w:=⟨rfl,rfl,rfl,Nat.le_refl _,fun _ _ _=>rfl⟩
theorem trans (h:Keeps F w w1) (h1:Keeps G w1 w2) (hs:∀ k∈G,k∈F∨w.heap.size≤k):Keeps F w w2 :=
 ⟨h1.os.trans h.os,h1.tape.trans h.tape,h1.output.trans h.output,Nat.le_trans h.size h1.size,fun k hk hn =>
  (h1.block k (Nat.lt_of_lt_of_le hk h.size) (fun hg=>(hs k hg).elim hn (fun hle=>by omega))).trans (h.block k hk hn)⟩
theorem mono (h:Keeps F w w') (hs:∀ k∈F,k∈G∨w.heap.size≤k):Keeps G w w' :=
 ⟨h.os,h.tape,h.output,h.size,fun k hk hn=>h.block k hk (fun hf=>(hs k hf).elim hn (fun hle=>by omega))⟩
theorem drew (h:Keeps F a w):Keeps F a w.drew:=⟨h.os,h.tape,h.output,h.size,h.block⟩
theorem drewN (h:Keeps F a w) (n:Nat):Keeps F a (w.drewN n):=⟨h.os,h.tape,h.output,h.size,h.block⟩
theorem alloc (h:Keeps F a w) (o:Obj):Keeps F a (w.alloc o) :=
 ⟨h.os,h.tape,h.output,Nat.le_trans h.size (by simp),fun k hk hn=>(Below.heap_alloc w o k (Nat.lt_of_lt_of_le hk h.size)).trans (h.block k hk hn)⟩
theorem setCell (h:Keeps F a w) {p:Addr} (hp:p.block∈F∨a.heap.size≤p.block) (u:Value):Keeps F a (w.setCell p u) :=
 ⟨h.os,h.tape,h.output,by simpa [World.setCell] using h.size,fun k hk hn =>
  (Below.heap_setCell w p u k (fun e=>by subst e;exact hp.elim hn (fun hle=>by omega))).trans (h.block k hk hn)⟩
theorem grown {row:Option Nat} (h:Keeps F a w) (hg:w.grownBy w' row) (hr:∀ k,row=some k→k∈F∨a.heap.size≤k):Keeps F a w' :=
 ⟨hg.os.trans h.os,hg.tape.trans h.tape,hg.output.trans h.output,Nat.le_trans h.size hg.size,fun k hk hn =>
  (hg.block k (Nat.lt_of_lt_of_le hk h.size) (fun e=>(hr k e.symm).elim hn (fun hle=>by omega))).trans (h.block k hk hn)⟩
theorem below (h:Keeps F w w') {n:Nat} (hn:n≤w.heap.size) (hF:∀ k∈F,n≤k):Below n w w' :=
 ⟨h.os,h.tape,h.output,h.size,fun k hk=>h.block k (by omega) (fun hf=>by have:=hF k hf;omega)⟩
end Keeps
theorem heap_setCells_other (b o k:Nat) (hk:k≠b):∀ (vs:List Value) (w:World),(w.setCells b o vs).heap[k]?=w.heap[k]?:=by
 intro vs
 induction vs generalizing o with
 | nil=>intro w;rfl
 | cons v vs ih=>intro w;rw [World.setCells,ih];exact Below.heap_setCell _ _ _ _ (by simpa using hk)
theorem size_setCells (b o:Nat):∀ (vs:List Value) (w:World),(w.setCells b o vs).heap.size=w.heap.size:=by
 intro vs
 induction vs generalizing o with
 | nil=>intro w;rfl
 | cons v vs ih=>intro w;rw [World.setCells,ih];simp [World.setCell]
theorem setCells_rest (b o:Nat):∀ (vs:List Value) (w:World),(w.setCells b o vs).os=w.os∧(w.setCells b o vs).tape=w.tape∧(w.setCells b o vs).output=w.output:=by
 intro vs
 induction vs generalizing o with
 | nil=>intro w;exact ⟨rfl,rfl,rfl⟩
 | cons v vs ih=>intro w;rw [World.setCells];exact ih _ _
theorem Keeps.setCells {F:List Nat} {a w:World} (h:Keeps F a w) {b:Nat} (hp:b∈F∨a.heap.size≤b) (o:Nat) (vs:List Value):Keeps F a (w.setCells b o vs) :=
 ⟨(setCells_rest b o vs w).1.trans h.os,(setCells_rest b o vs w).2.1.trans h.tape,(setCells_rest b o vs w).2.2.trans h.output,by rw [size_setCells];exact h.size,
  fun k hk hn=>(heap_setCells_other b o k (fun e=>by subst e;exact hp.elim hn (fun hle=>by omega)) vs w).trans (h.block k hk hn)⟩
theorem heap_setCells_same (b:Nat) (t:TypeId):∀ (vs:List Value) (o:Nat) (w:World) (cs:List Value),w.heap[b]?=some (.cells cs.toArray t (0,0))→o+vs.length≤cs.length →
  (w.setCells b o vs).heap[b]?=some (.cells (cs.take o++vs++cs.drop (o+vs.length)).toArray t (0,0)):=by
 intro vs
 induction vs with
 | nil=>intro o w cs h _;simpa [World.setCells] using h
 | cons v vs ih =>
  intro o w cs h hl
  simp only [List.length_cons] at hl
  rw [World.setCells]
  have h1:=heap_setCell_same w b o cs.toArray t v h
  rw [List.setIfInBounds_toArray] at h1
  rw [ih (o+1) _ _ h1 (by simp;omega)]
  congr 3
  have e1:(cs.set o v).take (o+1)=cs.take o++[v]:=by
   rw [List.take_succ_eq_append_getElem (by simp;omega)]
   simp [List.take_set]
   exact List.set_eq_of_length_le (by simp;omega)
  rw [e1,List.drop_set_of_lt (by omega)]
  simp only [List.length_cons,List.append_assoc,List.cons_append,List.nil_append]
  congr 4
  omega
def B (c:UInt8):Value:=.int .u8 c.toNat
theorem B_one (l:List UInt8):∀ v∈l.map B,v.oneCell'=true:=by
 intro v hv
 obtain ⟨c,_,rfl⟩:=List.mem_map.1 hv
 rfl
def BytesAt (w:World) (v:Value) (l:List UInt8):Prop :=
 (l=[]∧∃ a c,v=.slice a 0 c∧c≤maxLen)∨∃ g o cap,v=.slice (some ⟨g,o,none⟩) l.length cap∧l.length≤cap∧cap≤maxLen∧g < w.heap.size∧w.rangeAt g o (l.map B)
def _root_.Go.Value.elemBlock:Value→Option Nat
 | .slice (some a) (_+1) _=>some a.block
 | _=>none
theorem rangeAt_of_heap {w w':World} {g o:Nat} {cs:List Value} (h:w.rangeAt g o cs) (hb:w'.heap[g]?=w.heap[g]?):w'.rangeAt g o cs :=
 fun j v hv=>by rw [World.cell?_of_block (w:=w) (w':=w') (a:=⟨g,o+j,none⟩) hb];exact h j v hv
theorem there_of_heap {w w':World} {g o n:Nat} (h:w.there g o n) (hb:w'.heap[g]?=w.heap[g]?):w'.there g o n :=
 fun j hj=>by rw [World.cell?_of_block (w:=w) (w':=w') (a:=⟨g,o+j,none⟩) hb,World.frozen?_of_block (w:=w) (w':=w') (a:=⟨g,o+j,none⟩) hb];exact h j hj
theorem BytesAt.of_heap {w w':World} {v:Value} {l:List UInt8} (h:BytesAt w v l) (hs:w.heap.size≤w'.heap.size) (hd:∀ k,v.elemBlock=some k→k < w.heap.size→w'.heap[k]?=w.heap[k]?):BytesAt w' v l:=by
 rcases h with h | ⟨g,o,cap,rfl,h1,h2,h3,h4⟩
 ·exact .inl h
 ·match l with
  | []=>exact .inl ⟨rfl,_,_,rfl,h2⟩
  | x :: l=>exact .inr ⟨g,o,cap,rfl,h1,h2,Nat.lt_of_lt_of_le h3 hs,rangeAt_of_heap h4 (hd g rfl h3)⟩
theorem BytesAt.keeps {F:List Nat} {w w':World} {v:Value} {l:List UInt8} (h:BytesAt w v l) (hk:Keeps F w w') (hd:∀ k,v.elemBlock=some k→k ∉ F):BytesAt w' v l :=
 h.of_heap hk.size (fun k hk' hlt=>hk.block k hlt (hd k hk'))
theorem cell_set_off {w:World} {b i j:Nat} (v:Value) (h:j≠i):(w.setCell ⟨b,i,none⟩ v).cell? ⟨b,j,none⟩=w.cell? ⟨b,j,none⟩ :=
 World.cell?_setCell_other w _ _ v (fun e=>h (congrArg Addr.off e).symm)
theorem cell_set_far {w:World} {b c i j:Nat} (v:Value) (h:c≠b):(w.setCell ⟨b,i,none⟩ v).cell? ⟨c,j,none⟩=w.cell? ⟨c,j,none⟩ :=
 World.cell?_setCell_other w _ _ v (fun e=>h (congrArg Addr.block e).symm)
theorem heap_new_at {w:World} {o:Obj} {n:Nat} (hn:n=w.heap.size):(w.alloc o).heap[n]?=some o:=by subst hn;exact heap_alloc_new w o
theorem heap_old_at {w:World} {o:Obj} {n:Nat} (hn:n < w.heap.size):(w.alloc o).heap[n]?=w.heap[n]?:=Below.heap_alloc w o n hn
theorem rangeAt_all {w:World} {b:Nat} {cs:List Value} {t:TypeId} {fr:Nat × Nat} (h:w.heap[b]?=some (.cells cs.toArray t fr)):w.rangeAt b 0 cs:=fun j v hv=>by
 rw [Nat.zero_add,cell_of_row w b j _ _ _ h];simpa using hv
theorem rangeAt_part {w:World} {b:Nat} {xs ys zs:List Value} {t:TypeId} {fr:Nat × Nat} (h:w.heap[b]?=some (.cells (xs++ys++zs).toArray t fr)):w.rangeAt b xs.length ys:=fun j v hv=>by
 rw [cell_of_row w b _ _ _ _ h]
 have hj:=(List.getElem?_eq_some_iff.1 hv).1
 simp only [List.getElem?_toArray]
 rw [List.getElem?_append_left (by simp;omega),List.getElem?_append_right (by omega)]
 simpa using hv
theorem there_all {w:World} {b:Nat} {cs:List Value} {t:TypeId} (h:w.heap[b]?=some (.cells cs.toArray t (0,0))) (o n:Nat) (ho:o+n≤cs.length):w.there b o n:=fun j hj=>by
 refine ⟨?_,frozen_of_row w b _ _ _ h⟩
 rw [cell_of_row w b _ _ _ _ h]
 simp
 omega
theorem madeCells_same (k:Nat) (v:Value) (n:Nat) (hk:0 < k):madeCells (Array.replicate k v) n=(List.replicate n v).toArray:=by
 apply Array.ext_getElem?
 intro j
 by_cases hj:j < n
 ·have hm:j % k < k:=Nat.mod_lt _ hk
  simp [madeCells,hj,hm]
 ·simp [madeCells,hj]
def IMap (P:Program) (w:World) (ti:TypeId) (b n:Nat) (f:Int→Option Int):Prop :=
 ∃ D:DataW Unit,w.ownsMap P ti (plainElem P ti) b n D∧∀ k,(Lit.int .i64 k).wf=true→Maps.has D (.int .i64 k)=(f k).isSome∧∀ z,D.atKey (.int .i64 k) z=match f k with | some v=>.lit (.int .i64 v) | none=>z
section
variable {P:Program} {w w':World} {ti tm:TypeId} {b n:Nat} {f:Int→Option Int}
theorem IMap.lt (h:IMap P w ti b n f):b < w.heap.size:=by obtain ⟨D,h,_⟩:=h;exact h.lt
theorem IMap.keep (h:IMap P w ti b n f) (hb:w'.heap[b]?=w.heap[b]?):IMap P w' ti b n f:=by
 obtain ⟨D,⟨es,clock,h1,h2⟩,h3⟩:=h
 exact ⟨D,⟨es,clock,hb.trans h1,h2⟩,h3⟩
theorem IMap_empty {es:Array MapEntry} (clock:Nat) (he:es=#[]) (hb:w.heap[b]?=some (.map es clock)):IMap P w ti b 0 (fun _=>none):=by
 subst he
 refine ⟨.map [],⟨#[],clock,hb,⟨by simp,stamped_empty clock,by simp⟩,Nat.le_refl _,rfl⟩,fun k _=>⟨rfl,fun z=>rfl⟩⟩
theorem IMap.look (h:IMap P w ti b n f) (hi:P.underlying ti=some (.int .i64)) (ht:P.underlying tm=some (.map ti ti)) (hz:(zeroValue ti).run P w=.ok (.int .i64 0) w) {k:Int} (hk:(Lit.int .i64 k).wf=true) :
  (Instr.lookup tm (.map (some b)) (.int .i64 k) true).run P w=.ok (.tuple #[.int .i64 ((f k).getD 0),.bool (f k).isSome]) w:=by
 obtain ⟨D,h,h3⟩:=h
 obtain ⟨v,ps,hrun,hv⟩:=h.look_ok (int_keyed hi) ht hz (plainElem_int hi (by decide)) (keyOf_int_mk hi hk)
 rw [hrun,(h3 k hk).1]
 obtain ⟨c,rfl,hc,_⟩:=plainElem_int_inv hi hv
 have e:=congrArg Prod.fst hc
 simp only [(h3 k hk).2] at e
 cases hf:f k with
 | none=>simp [hf] at e;simp [e]
 | some x=>simp [hf] at e;simp [e]
theorem IMap.put (h:IMap P w ti b n f) (hi:P.underlying ti=some (.int .i64)) (ht:P.underlying tm=some (.map ti ti)) (hn:n < maxLen) {k v:Int} (hk:(Lit.int .i64 k).wf=true) (hv:(Lit.int .i64 v).wf=true) :
  ∃ w',(Instr.mapUpdate tm (.map (some b)) (.int .i64 k) (.int .i64 v)).run P w=.ok () w'∧IMap P w' ti b (n+1) (fun j=>if j=k then some v else f j)∧w.grownBy w' (some b)∧w'.heap.size=w.heap.size:=by
 obtain ⟨D,h,h3⟩:=h
 obtain ⟨w',hrun,hown,hturn⟩:=h.store (int_keyed hi) ht hn (keyOf_int_mk hi hk) (plainElem_int hi hv)
 have hs:w'.heap.size=w.heap.size:=by
  obtain ⟨_,_,_,_,_,rfl⟩:=hturn
  simp [setBlock]
 refine ⟨w',hrun,⟨_,hown,fun j hj=>?_⟩,hturn.grown,hs⟩
 have hM:=h.isMap
 by_cases e:j=k
 ·subst e
  refine ⟨?_,fun z=>?_⟩
  ·simp only [if_true]
   exact Maps.has_put_same hM (by first | exact ⟨_,_,rfl,hk⟩ | simp [WideAt.IsKeyLit]) _
  ·simp only [if_true]
   exact Maps.atKey_put_same hM (by first | exact ⟨_,_,rfl,hk⟩ | simp [WideAt.IsKeyLit]) _ _
 ·have hne:(Lit.int .i64 j)≠.int .i64 k:=fun he=>e (by simpa using he)
  refine ⟨?_,fun z=>?_⟩
  ·rw [Maps.has_put_other hne];simp only [if_neg e];exact (h3 j hj).1
  ·rw [Maps.atKey_put_other hne];simp only [if_neg e];exact (h3 j hj).2 z
theorem IMap.clear {tk te:TypeId} (h:IMap P w ti b n f) (ht:P.underlying tm=some (.map tk te)) :
  ∃ w',(∀ ty,(Builtin.clear_ #[tm] ty #[.map (some b)]).run P w=.ok (.tuple #[]) w')∧IMap P w' ti b 0 (fun _=>none)∧w.grownBy w' (some b)∧w'.heap.size=w.heap.size:=by
 obtain ⟨D,⟨es,clock,h1,_⟩,_⟩:=h
 have hr:∀ ty,(Builtin.clear_ #[tm] ty #[.map (some b)]).run P w=.ok (.tuple #[]) (setBlock w b (.map #[] clock)):=by
  intro ty
  simp [Builtin.clear_,run_underlying ht,MapKept.run_getObj_map h1,Result.andThen,setObj,Sem.run,h1,setBlock]
 refine ⟨setBlock w b (.map #[] clock),hr,IMap_empty clock rfl (heap_setBlock_same h1 _),⟨rfl,rfl,rfl,by simp [setBlock],fun i _ hi=>heap_setBlock_other h1 _ (fun e=>hi (by rw [e]))⟩,by simp [setBlock]⟩
end
theorem zA (a:Act) (d:Tmp) (v:Value):a.put (some d) v={ a with tmps:=a.tmps.setIfInBounds d v }:=rfl
theorem zB (a:Act) (v:Value):a.put none v=a:=rfl
theorem zC {α:Type} (l:List α) (i:Nat) (x:α):l.toArray.setIfInBounds i x=(l.set i x).toArray:=List.setIfInBounds_toArray ..
theorem zD {α:Type} (l:List α) (x y:α):(x :: l).set 0 y=y :: l:=rfl
theorem zE {α:Type} (l:List α) (i:Nat) (x y:α):(x :: l).set (i+1) y=x :: l.set i y:=rfl
theorem zF {α:Type} (l:List α) (i:Nat) (h:i < l.toArray.size):l.toArray[i]=l[i]'(by simpa using h):=rfl
theorem zG {α:Type} (l:List α) (x:α) (h:0 < (x :: l).length):(x :: l)[0]=x:=rfl
theorem zH {α:Type} (l:List α) (i:Nat) (x:α) (h:i+1 < (x :: l).length):(x :: l)[i+1]=l[i]'(by simpa using h):=rfl
section
open Go
variable {P:Program} {ops:Array Oper} {Q:Exit→Act→World→Prop} {md:Region.Mode} {S:World→Prop}
theorem tkb (i:Nat) {oi:Oper} {v:Value} {fuel:Nat} {listed l':Array Bool} {a a':Act} {w:World} (hi:ops[i]?=some oi) (hy:YieldsIf P ops S oi v a) (h:wpAnyH P md ops Q S fuel l' a' w)
  (hs:Region.noSelect ops=true:=by kernel_rfl) (hf:Region.free md ops listed i=true:=by kernel_rfl) (hr:(Region.ready md ops listed).contains i=true:=by kernel_rfl)
  (hQ:∀ c a w,Q (.panic c) (a.put oi.dst v) w→Q (.panic c) a w:=by exact fun _ _ _ h=>h) (hS:S w:=by assumption)
  (hl:listed.setIfInBounds i true=l':=by (try simp only [zA,zB,zC,zD,zE,zF,zG,zH]);(try rfl)) (ha:a.put oi.dst v=a':=by (try simp only [zA,zB,zC,zD,zE,zF,zG,zH]);(try rfl)):wpAnyH P md ops Q S (fuel+1) listed a w:=by
 subst hl ha
 exact wpAnyH_take hi hs hf hr hQ hy hS h
theorem tk (i:Nat) {oi:Oper} {v:Value} {fuel:Nat} {listed l':Array Bool} {a a':Act} {w:World} (h:wpAnyH P md ops Q S fuel l' a' w) (hi:ops[i]?=some oi:=by rfl)
  (hs:Region.noSelect ops=true:=by kernel_rfl) (hf:Region.free md ops listed i=true:=by kernel_rfl) (hr:(Region.ready md ops listed).contains i=true:=by kernel_rfl)
  (hwt:Region.wanted oi (yielded ops a.tmps)=true:=by rfl)
  (hy:∀ w0,S w0→(execOp a.eval oi).run P w0=.ok (.value v) w0:=by intro w0 hSw;(try dsimp only at hSw);go_split_ands;go_simp;(try with_reducible rfl))
  (hQ:∀ c a w,Q (.panic c) (a.put oi.dst v) w→Q (.panic c) a w:=by exact fun _ _ _ h=>h) (hS:S w:=by assumption)
  (hl:listed.setIfInBounds i true=l':=by (try simp only [zA,zB,zC,zD,zE,zF,zG,zH]);(try rfl)) (ha:a.put oi.dst v=a':=by (try simp only [zA,zB,zC,zD,zE,zF,zG,zH]);(try rfl)):wpAnyH P md ops Q S (fuel+1) listed a w :=
 tkb i hi (Or.inl ⟨hwt,hy⟩) h hs hf hr hQ hS hl ha
theorem ac (i:Nat) {o:Oper} {fuel:Nat} {listed:Array Bool} {a:Act} {w:World}
  (h:∀ K':Act→World→Prop,Shut (∀ a w,S w→(S w→wpAnyH P md ops Q S fuel (listed.setIfInBounds i true) a w)→K' a w)→if Region.wanted o (yielded ops a.tmps)=true then Oper.wp P o a w K' Q else K' (a.put o.dst undef) w)
  (ho:ops[i]?=some o:=by rfl) (hr:Region.ready md ops listed=[i]:=by kernel_rfl):wpAnyH P md ops Q S (fuel+1) listed a w :=
 wpAnyH_ready hr (by simp) (AllReadyH.cons ho h AllReadyH.nil)
end
section
variable {P:Program} {ops:Array Oper} {rest:List Oper} {o:Oper} {a:Act} {w:World} {K:Act→World→Prop} {Q:Exit→Act→World→Prop} {E:Prop}
theorem wp_alloc (t:TypeId) (ho:o.op=.alloc t) (h:∃ v w',(Instr.alloc t true (.tuple #[])).run P w=.ok v w'∧K (a.put o.dst v) w'):o.wp P a w K Q:=by
 obtain ⟨v,w',hrun,h⟩:=h
 unfold Oper.wp execOp
 simp only [ho,Sem.run_bind,Sem.run_pure,Result.andThen_ok] at hrun ⊢
 simp only [hrun,Result.andThen_ok]
 exact h
theorem wl_alloc (hg:o.guard=none) (t:TypeId) (ho:o.op=.alloc t) (h:∃ v w',(Instr.alloc t true (.tuple #[])).run P w=.ok v w'∧wpList P ops Q rest (a.put o.dst v) w'):wpList P ops Q (o :: rest) a w:=by
 obtain ⟨v,w',hrun,h⟩:=h
 exact wpList_plain hg fun _ hK=>wp_alloc t ho ⟨v,w',hrun,hK _ _ h⟩
theorem st_alloc (hg:o.guard=none) (t:TypeId) (ho:o.op=.alloc t) (h:∃ v w',(Instr.alloc t true (.tuple #[])).run P w=.ok v w'∧K (a.put o.dst v) w'):if Region.wanted o (yielded ops a.tmps)=true then o.wp P a w K Q else E:=by
 rw [if_pos (by simp [Region.wanted,hg])]
 exact wp_alloc t ho h
theorem wp_build (t:TypeId) (ps:Array (Nat × Operand)) (vs:Array (Nat × Value)) (ho:o.op=.build t ps) (hvs:(ps.map fun p=>(p.1,a.eval p.2))=vs) (h:∃ v w',(Instr.build t vs).run P w=.ok v w'∧K (a.put o.dst v) w'):o.wp P a w K Q:=by
 obtain ⟨v,w',hrun,h⟩:=h
 subst hvs
 unfold Oper.wp execOp
 simp only [ho,Sem.run_bind,Sem.run_pure,Result.andThen_ok] at hrun ⊢
 simp only [hrun,Result.andThen_ok]
 exact h
theorem wl_build (hg:o.guard=none) (t:TypeId) (ps:Array (Nat × Operand)) (vs:Array (Nat × Value)) (ho:o.op=.build t ps) (hvs:(ps.map fun p=>(p.1,a.eval p.2))=vs) (h:∃ v w',(Instr.build t vs).run P w=.ok v w'∧wpList P ops Q rest (a.put o.dst v) w'):wpList P ops Q (o :: rest) a w:=by
 obtain ⟨v,w',hrun,h⟩:=h
 exact wpList_plain hg fun _ hK=>wp_build t ps vs ho hvs ⟨v,w',hrun,hK _ _ h⟩
theorem wp_buildSlice (t:TypeId) (n:Nat) (ps:Array (Nat × Operand)) (vs:Array (Nat × Value)) (ho:o.op=.buildSlice t n ps) (hvs:(ps.map fun p=>(p.1,a.eval p.2))=vs) (h:∃ v w',(Instr.buildSlice t n vs).run P w=.ok v w'∧K (a.put o.dst v) w'):o.wp P a w K Q:=by
 obtain ⟨v,w',hrun,h⟩:=h
 subst hvs
 unfold Oper.wp execOp
 simp only [ho,Sem.run_bind,Sem.run_pure,Result.andThen_ok] at hrun ⊢
 simp only [hrun,Result.andThen_ok]
 exact h
theorem wl_buildSlice (hg:o.guard=none) (t:TypeId) (n:Nat) (ps:Array (Nat × Operand)) (vs:Array (Nat × Value)) (ho:o.op=.buildSlice t n ps) (hvs:(ps.map fun p=>(p.1,a.eval p.2))=vs) (h:∃ v w',(Instr.buildSlice t n vs).run P w=.ok v w'∧wpList P ops Q rest (a.put o.dst v) w'):wpList P ops Q (o :: rest) a w:=by
 obtain ⟨v,w',hrun,h⟩:=h
 exact wpList_plain hg fun _ hK=>wp_buildSlice t n ps vs ho hvs ⟨v,w',hrun,hK _ _ h⟩
theorem st_buildSlice (hg:o.guard=none) (t:TypeId) (n:Nat) (ps:Array (Nat × Operand)) (vs:Array (Nat × Value)) (ho:o.op=.buildSlice t n ps) (hvs:(ps.map fun p=>(p.1,a.eval p.2))=vs) (h:∃ v w',(Instr.buildSlice t n vs).run P w=.ok v w'∧K (a.put o.dst v) w'):if Region.wanted o (yielded ops a.tmps)=true then o.wp P a w K Q else E:=by
 rw [if_pos (by simp [Region.wanted,hg])]
 exact wp_buildSlice t n ps vs ho hvs h
theorem wp_load (t:TypeId) (x:Operand) (ho:o.op=.load t x) (h:∃ v w',(Instr.loadAt t (a.eval x)).run P w=.ok v w'∧K (a.put o.dst v) w'):o.wp P a w K Q:=by
 obtain ⟨v,w',hrun,h⟩:=h
 unfold Oper.wp execOp
 simp only [ho,Sem.run_bind,Sem.run_pure,Result.andThen_ok] at hrun ⊢
 simp only [hrun,Result.andThen_ok]
 exact h
theorem wl_load (hg:o.guard=none) (t:TypeId) (x:Operand) (ho:o.op=.load t x) (h:∃ v w',(Instr.loadAt t (a.eval x)).run P w=.ok v w'∧wpList P ops Q rest (a.put o.dst v) w'):wpList P ops Q (o :: rest) a w:=by
 obtain ⟨v,w',hrun,h⟩:=h
 exact wpList_plain hg fun _ hK=>wp_load t x ho ⟨v,w',hrun,hK _ _ h⟩
theorem wp_store (t:TypeId) (x y:Operand) (ho:o.op=.store t x y) (h:∃ w',(Instr.storeAt t (a.eval x) (a.eval y)).run P w=.ok () w'∧K (a.put o.dst undef) w'):o.wp P a w K Q:=by
 obtain ⟨w',hrun,h⟩:=h
 unfold Oper.wp execOp
 simp only [ho,Sem.run_bind,Sem.run_pure,Result.andThen_ok] at hrun ⊢
 simp only [hrun,Result.andThen_ok]
 exact h
theorem wl_store (hg:o.guard=none) (t:TypeId) (x y:Operand) (ho:o.op=.store t x y) (h:∃ w',(Instr.storeAt t (a.eval x) (a.eval y)).run P w=.ok () w'∧wpList P ops Q rest (a.put o.dst undef) w'):wpList P ops Q (o :: rest) a w:=by
 obtain ⟨w',hrun,h⟩:=h
 exact wpList_plain hg fun _ hK=>wp_store t x y ho ⟨w',hrun,hK _ _ h⟩
theorem st_store (hg:o.guard=none) (t:TypeId) (x y:Operand) (ho:o.op=.store t x y) (h:∃ w',(Instr.storeAt t (a.eval x) (a.eval y)).run P w=.ok () w'∧K (a.put o.dst undef) w'):if Region.wanted o (yielded ops a.tmps)=true then o.wp P a w K Q else E:=by
 rw [if_pos (by simp [Region.wanted,hg])]
 exact wp_store t x y ho h
theorem wp_makeSlice (t:TypeId) (l c:Operand) (ho:o.op=.makeSlice t l c) (h:∃ v w',(Instr.makeSlice t (a.eval l) (a.eval c)).run P w=.ok v w'∧K (a.put o.dst v) w'):o.wp P a w K Q:=by
 obtain ⟨v,w',hrun,h⟩:=h
 unfold Oper.wp execOp
 simp only [ho,Sem.run_bind,Sem.run_pure,Result.andThen_ok] at hrun ⊢
 simp only [hrun,Result.andThen_ok]
 exact h
theorem wl_makeSlice (hg:o.guard=none) (t:TypeId) (l c:Operand) (ho:o.op=.makeSlice t l c) (h:∃ v w',(Instr.makeSlice t (a.eval l) (a.eval c)).run P w=.ok v w'∧wpList P ops Q rest (a.put o.dst v) w'):wpList P ops Q (o :: rest) a w:=by
 obtain ⟨v,w',hrun,h⟩:=h
 exact wpList_plain hg fun _ hK=>wp_makeSlice t l c ho ⟨v,w',hrun,hK _ _ h⟩
theorem wp_slice (t:TypeId) (x:Operand) (lo hi mx:Option Operand) (ho:o.op=.slice t x lo hi mx) (h:∃ v w',(Instr.sliceAt t (a.eval x) (lo.map a.eval) (hi.map a.eval) (mx.map a.eval)).run P w=.ok v w'∧K (a.put o.dst v) w'):o.wp P a w K Q:=by
 obtain ⟨v,w',hrun,h⟩:=h
 unfold Oper.wp execOp
 simp only [ho,Sem.run_bind,Sem.run_pure,Result.andThen_ok] at hrun ⊢
 simp only [hrun,Result.andThen_ok]
 exact h
theorem wl_slice (hg:o.guard=none) (t:TypeId) (x:Operand) (lo hi mx:Option Operand) (ho:o.op=.slice t x lo hi mx) (h:∃ v w',(Instr.sliceAt t (a.eval x) (lo.map a.eval) (hi.map a.eval) (mx.map a.eval)).run P w=.ok v w'∧wpList P ops Q rest (a.put o.dst v) w'):wpList P ops Q (o :: rest) a w:=by
 obtain ⟨v,w',hrun,h⟩:=h
 exact wpList_plain hg fun _ hK=>wp_slice t x lo hi mx ho ⟨v,w',hrun,hK _ _ h⟩
theorem wp_binOp (b:BinOp) (t:TypeId) (x y:Operand) (t2:TypeId) (ho:o.op=.binOp b t x y t2) (h:∃ v w',(do eqGuard b t x y (a.eval x) (a.eval y);binOp b t (a.eval x) (a.eval y)).run P w=.ok v w'∧K (a.put o.dst v) w'):o.wp P a w K Q:=by
 obtain ⟨v,w',hrun,h⟩:=h
 unfold Oper.wp execOp
 simp only [ho,Sem.run_bind,Sem.run_pure,Result.andThen_ok] at hrun ⊢
 simp only [hrun,Result.andThen_ok]
 exact h
theorem wl_binOp (hg:o.guard=none) (b:BinOp) (t:TypeId) (x y:Operand) (t2:TypeId) (ho:o.op=.binOp b t x y t2) (h:∃ v w',(do eqGuard b t x y (a.eval x) (a.eval y);binOp b t (a.eval x) (a.eval y)).run P w=.ok v w'∧wpList P ops Q rest (a.put o.dst v) w'):wpList P ops Q (o :: rest) a w:=by
 obtain ⟨v,w',hrun,h⟩:=h
 exact wpList_plain hg fun _ hK=>wp_binOp b t x y t2 ho ⟨v,w',hrun,hK _ _ h⟩
theorem wp_convert (s d:TypeId) (x:Operand) (ho:o.op=.convert s d x) (h:∃ v w',(convert s d (a.eval x)).run P w=.ok v w'∧K (a.put o.dst v) w'):o.wp P a w K Q:=by
 obtain ⟨v,w',hrun,h⟩:=h
 unfold Oper.wp execOp
 simp only [ho,Sem.run_bind,Sem.run_pure,Result.andThen_ok] at hrun ⊢
 simp only [hrun,Result.andThen_ok]
 exact h
theorem wl_convert (hg:o.guard=none) (s d:TypeId) (x:Operand) (ho:o.op=.convert s d x) (h:∃ v w',(convert s d (a.eval x)).run P w=.ok v w'∧wpList P ops Q rest (a.put o.dst v) w'):wpList P ops Q (o :: rest) a w:=by
 obtain ⟨v,w',hrun,h⟩:=h
 exact wpList_plain hg fun _ hK=>wp_convert s d x ho ⟨v,w',hrun,hK _ _ h⟩
theorem wp_index (t:TypeId) (x y:Operand) (ho:o.op=.index t x y) (h:∃ v w',(Instr.index t (a.eval x) (a.eval y)).run P w=.ok v w'∧K (a.put o.dst v) w'):o.wp P a w K Q:=by
 obtain ⟨v,w',hrun,h⟩:=h
 unfold Oper.wp execOp
 simp only [ho,Sem.run_bind,Sem.run_pure,Result.andThen_ok] at hrun ⊢
 simp only [hrun,Result.andThen_ok]
 exact h
theorem wl_index (hg:o.guard=none) (t:TypeId) (x y:Operand) (ho:o.op=.index t x y) (h:∃ v w',(Instr.index t (a.eval x) (a.eval y)).run P w=.ok v w'∧wpList P ops Q rest (a.put o.dst v) w'):wpList P ops Q (o :: rest) a w:=by
 obtain ⟨v,w',hrun,h⟩:=h
 exact wpList_plain hg fun _ hK=>wp_index t x y ho ⟨v,w',hrun,hK _ _ h⟩
theorem wp_field (t:TypeId) (x:Operand) (f:Nat) (ho:o.op=.field t x f) (h:∃ v w',(Instr.field t (a.eval x) f).run P w=.ok v w'∧K (a.put o.dst v) w'):o.wp P a w K Q:=by
 obtain ⟨v,w',hrun,h⟩:=h
 unfold Oper.wp execOp
 simp only [ho,Sem.run_bind,Sem.run_pure,Result.andThen_ok] at hrun ⊢
 simp only [hrun,Result.andThen_ok]
 exact h
theorem wl_field (hg:o.guard=none) (t:TypeId) (x:Operand) (f:Nat) (ho:o.op=.field t x f) (h:∃ v w',(Instr.field t (a.eval x) f).run P w=.ok v w'∧wpList P ops Q rest (a.put o.dst v) w'):wpList P ops Q (o :: rest) a w:=by
 obtain ⟨v,w',hrun,h⟩:=h
 exact wpList_plain hg fun _ hK=>wp_field t x f ho ⟨v,w',hrun,hK _ _ h⟩
theorem wp_lookup (t:TypeId) (x y:Operand) (ok:Bool) (ho:o.op=.lookup t x y ok) (h:∃ v w',(Instr.lookup t (a.eval x) (a.eval y) ok).run P w=.ok v w'∧K (a.put o.dst v) w'):o.wp P a w K Q:=by
 obtain ⟨v,w',hrun,h⟩:=h
 unfold Oper.wp execOp
 simp only [ho,Sem.run_bind,Sem.run_pure,Result.andThen_ok] at hrun ⊢
 simp only [hrun,Result.andThen_ok]
 exact h
theorem wl_lookup (hg:o.guard=none) (t:TypeId) (x y:Operand) (ok:Bool) (ho:o.op=.lookup t x y ok) (h:∃ v w',(Instr.lookup t (a.eval x) (a.eval y) ok).run P w=.ok v w'∧wpList P ops Q rest (a.put o.dst v) w'):wpList P ops Q (o :: rest) a w:=by
 obtain ⟨v,w',hrun,h⟩:=h
 exact wpList_plain hg fun _ hK=>wp_lookup t x y ok ho ⟨v,w',hrun,hK _ _ h⟩
theorem wp_mapUpdate (t:TypeId) (x y z:Operand) (ho:o.op=.mapUpdate t x y z) (h:∃ w',(Instr.mapUpdate t (a.eval x) (a.eval y) (a.eval z)).run P w=.ok () w'∧K (a.put o.dst undef) w'):o.wp P a w K Q:=by
 obtain ⟨w',hrun,h⟩:=h
 unfold Oper.wp execOp
 simp only [ho,Sem.run_bind,Sem.run_pure,Result.andThen_ok] at hrun ⊢
 simp only [hrun,Result.andThen_ok]
 exact h
theorem wl_mapUpdate (hg:o.guard=none) (t:TypeId) (x y z:Operand) (ho:o.op=.mapUpdate t x y z) (h:∃ w',(Instr.mapUpdate t (a.eval x) (a.eval y) (a.eval z)).run P w=.ok () w'∧wpList P ops Q rest (a.put o.dst undef) w'):wpList P ops Q (o :: rest) a w:=by
 obtain ⟨w',hrun,h⟩:=h
 exact wpList_plain hg fun _ hK=>wp_mapUpdate t x y z ho ⟨w',hrun,hK _ _ h⟩
theorem wp_builtin (b:Builtin) (args:Array Operand) (ts:Array TypeId) (ho:o.op=.call { callee:=.builtin b,args,argTypes:=ts }) 
  (h:∃ v w',(∀ cs:Array Bool,(builtin b ts o.type cs (args.map a.eval)).run P w=.ok (.value v) w')∧K (a.put o.dst v) w'):o.wp P a w K Q:=by
 obtain ⟨v,w',hrun,h⟩:=h
 unfold Oper.wp execOp
 simp only [ho,resolve,invoke,Sem.run_bind,Sem.run_pure,Result.andThen_ok,hrun]
 exact h
theorem wl_builtin (hg:o.guard=none) (b:Builtin) (args:Array Operand) (ts:Array TypeId) (ho:o.op=.call { callee:=.builtin b,args,argTypes:=ts }) 
  (h:∃ v w',(∀ cs:Array Bool,(builtin b ts o.type cs (args.map a.eval)).run P w=.ok (.value v) w')∧wpList P ops Q rest (a.put o.dst v) w'):wpList P ops Q (o :: rest) a w:=by
 obtain ⟨v,w',hrun,h⟩:=h
 exact wpList_plain hg fun _ hK=>wp_builtin b args ts ho ⟨v,w',hrun,hK _ _ h⟩
theorem run_builtin_copy {w':World} {dT sT ty:TypeId} {d s v:Value} (h:(Builtin.copy_ #[dT,sT] ty #[d,s]).run P w=.ok v w'):∀ cs:Array Bool,(builtin .copy #[dT,sT] ty cs #[d,s]).run P w=.ok (.value v) w':=by
 intro cs
 simp [builtin,h,Result.andThen]
theorem run_builtin_append {w':World} {dT sT ty:TypeId} {d s v:Value} (h:(Builtin.append_ #[dT,sT] ty #[d,s]).run P w=.ok v w'):∀ cs:Array Bool,(builtin .append #[dT,sT] ty cs #[d,s]).run P w=.ok (.value v) w':=by
 intro cs
 simp [builtin,h,Result.andThen]
end
theorem run_alloc {P:Program} (w:World) {t:TypeId} {z:Value} {n k:Nat} (hz:(P.info? t).map (fun i=>(i.zero,i.size,i.bytes))=some (some z,n,k)) :
  (Instr.alloc t true (.tuple #[])).run P w=.ok (.pointer (some ⟨w.heap.size,0,none⟩)) (w.alloc (.cells z.cells t)):=by
 obtain ⟨i,hi,h1,h2,h3⟩:=info_parts hz
 simp [Instr.alloc,zeroValue,typeInfo,hi,h1,newVar,newRow,Result.andThen]
theorem run_buildSlice_one {P:Program} (w:World) {t e:TypeId} {cs:Array Value} {n k:Nat} {z:Value} (ht:P.underlying t=some (.slice e)) (hz:(P.info? e).map (fun i=>(i.zero,i.size,i.bytes))=some (some z,n,k)) (hn:cs.size=n) (hn0:0 < n) (hn1:n≤16777216) :
  (Instr.buildSlice t 1 #[(0,.agg cs)]).run P w=.ok (.slice (some ⟨w.heap.size,0,none⟩) 1 1) (w.alloc (.cells cs e)):=by
 obtain ⟨i,hi,h1,h2,h3⟩:=info_parts hz
 have hfold:∀ (l:List Value) (k:Nat) (acc:Array Value),acc.size=k+l.length→((l.zipIdx k).foldl (fun cs x=>cs.setIfInBounds x.snd x.fst) acc)=(acc.toList.take k++l).toArray:=by
  intro l
  induction l with
  | nil=>intro k acc hk;simp at hk;apply Array.ext';simp [List.take_of_length_le,hk]
  | cons c l ih =>
   intro k acc hk
   simp only [List.zipIdx_cons,List.foldl_cons]
   rw [ih (k+1) _ (by simp at hk ⊢;omega)]
   apply Array.ext'
   simp only [Array.toList_setIfInBounds]
   have hk':k < acc.toList.length:=by simp at hk ⊢;omega
   rw [List.take_succ_eq_append_getElem (by simpa using hk')]
   simp [List.take_set]
   rw [List.set_eq_of_length_le (by simp;omega)]
 have hf:=hfold cs.toList 0
 have hn2:¬ (16777216 < n):=by omega
 have hn3:¬ n=0:=by omega
 simp [Instr.buildSlice,run_underlying ht,sizeOf,typeInfo,hi,h2,hn2,hn3,zeroValue,h1,Instr.fill,Value.cells,hn,newRow,Result.andThen]
 generalize hX:Array.map _ (Array.range n)=X
 have hXs:X.size=n:=by rw [← hX];simp
 have e:Array.foldl (fun cs x=>cs.setIfInBounds x.snd x.fst) X cs.zipIdx 0 n=Array.foldl (fun cs x=>cs.setIfInBounds x.snd x.fst) X cs.zipIdx:=by rw [show cs.zipIdx.size=n by simpa using hn]
 rw [e,← Array.foldl_toList,Array.toList_zipIdx,hf X (by simp [hXs,hn])]
 simp
open Go
section
variable {P:Program} {ops:Array Oper} {Q:Exit→Act→World→Prop} {md:Region.Mode} {S:World→Prop} {last:Nat}
def wpAnyL (P:Program) (md:Region.Mode) (ops:Array Oper) (Q:Exit→Act→World→Prop) (S:World→Prop) (last:Nat):Nat→Array Bool→Act→World→Prop
 | 0,listed,a,w=>Region.ready md ops listed=[]∧Q .normal a w
 | fuel+1,listed,a,w =>
  (Region.ready md ops listed=[]→Q .normal a w) ∧
  ∀ i∈Region.ready md ops listed,wpOp P ops Q i (fun a' w'=>(i≠last→S w')∧wpAnyL P md ops Q S last fuel (listed.setIfInBounds i true) a' w') a w
theorem wpAny_of_L:∀ (fuel:Nat) (listed:Array Bool) (a:Act) (w:World),wpAnyL P md ops Q S last fuel listed a w→wpAny P md ops Q fuel listed a w
 | 0,_,_,_,h=>h
 | fuel+1,_,_,_,h=>⟨h.1,fun i hi=>wpOp_mono (fun a' w' h'=>wpAny_of_L fuel _ a' w' h'.2) (h.2 i hi)⟩
theorem wpAnyL_first {i:Nat} {oi:Oper} {v:Value} (hi:ops[i]?=some oi) (hsel:∀ (j:Nat) (o:Oper) cs b,ops[j]?=some o→o.op≠.select cs b)
  (hil:i≠last) (hlast:∀ ol,ops[last]?=some ol→∃ e∈ol.after,Region.binds md e=true∧e.on=i)
  (hQ:∀ c a w,Q (.panic c) (a.put oi.dst v) w→Q (.panic c) a w) :
  ∀ (fuel:Nat) (listed:Array Bool) (a:Act) (w:World),
   (∀ j oj,ops[j]?=some oj→j≠i→listed.getD j true=false→(∀ e∈oj.after,Region.binds md e=true→e.on≠i)→oi.apart ops oj=true) →
   i∈Region.ready md ops listed→YieldsIf P ops S oi v a→S w →
   wpAnyL P md ops Q S last fuel (listed.setIfInBounds i true) (a.put oi.dst v) w→wpAnyL P md ops Q S last (fuel+1) listed a w:=by
 intro fuel
 induction fuel with
 | zero =>
  intro listed a w _ hr hy hS H
  refine ⟨fun h=>(by rw [h] at hr;cases hr),fun j hj=>?_⟩
  by_cases hji:j=i
  ·subst hji;exact hy.wpOp hi hS ⟨fun _=>hS,H⟩
  ·have:=ready_mono hj hji
   rw [H.1] at this
   cases this
 | succ fuel ih =>
  intro listed a w hfree hr hy hS H
  refine ⟨fun h=>(by rw [h] at hr;cases hr),fun j hj=>?_⟩
  by_cases hji:j=i
  ·subst hji;exact hy.wpOp hi hS ⟨fun _=>hS,H⟩
  ·have h1:=H.2 j (ready_mono hj hji)
   obtain ⟨hjun,oj,hoj,hall⟩:=mem_ready.1 hj
   have hnot:∀ e∈oj.after,Region.binds md e=true→e.on≠i:=fun e he hb heq=>by
    have h1:=hall e he hb
    have h0:=(mem_ready.1 hr).1
    rw [heq] at h1
    rcases Nat.lt_or_ge i listed.size with h' | h'
    ·simp [h'] at h0 h1;rw [h0] at h1;cases h1
    ·simp [Array.getElem?_eq_none h'] at h1
   have hjl:j≠last:=by
    rintro rfl
    obtain ⟨e,he,hb,heq⟩:=hlast oj hoj
    exact hnot e he hb heq
   have h2:=wpOp_putIf hoj (hfree j oj hoj hji hjun hnot) (fun cs b=>hsel i oi cs b hi) (fun cs b=>hsel j oj cs b hoj) hQ hy h1
   have hfree':∀ k ok,ops[k]?=some ok→k≠i→(listed.setIfInBounds j true).getD k true=false →
     (∀ e∈ok.after,Region.binds md e=true→e.on≠i)→oi.apart ops ok=true:=fun k ok hk hki hun hno=>by
    refine hfree k ok hk hki ?_ hno
    by_cases hjk:j=k
    ·subst hjk;exact hjun
    ·rw [getD_set_ne true hjk] at hun;exact hun
   refine wpOp_mono (fun a' w' h3=>⟨fun _=>h3.2.1 hjl,ih (listed.setIfInBounds j true) a' w' hfree' (ready_mono hr (Ne.symm hji)) h3.1 (h3.2.1 hjl) ?_⟩) h2
   rw [Array.setIfInBounds_comm _ _ hji]
   exact h3.2.2
def waitsFor (md:Region.Mode) (ops:Array Oper) (last i:Nat):Bool :=
 i != last && match ops[last]? with
 | some ol=>ol.after.any fun e=>Region.binds md e && e.on == i
 | none=>true
theorem rl_take {i:Nat} {oi:Oper} {v:Value} {fuel:Nat} {listed:Array Bool} {a:Act} {w:World} (hi:ops[i]?=some oi)
  (hs:Region.noSelect ops=true) (hf:Region.free md ops listed i=true) (hr:(Region.ready md ops listed).contains i=true) (hl:waitsFor md ops last i=true)
  (hQ:∀ c a w,Q (.panic c) (a.put oi.dst v) w→Q (.panic c) a w) (hy:YieldsIf P ops S oi v a) (hS:S w)
  (h:wpAnyL P md ops Q S last fuel (listed.setIfInBounds i true) (a.put oi.dst v) w):wpAnyL P md ops Q S last (fuel+1) listed a w:=by
 simp only [waitsFor,Bool.and_eq_true,bne_iff_ne] at hl
 refine wpAnyL_first hi (Region.noSelect_spec hs) hl.1 (fun ol hol=>?_) hQ fuel listed a w (Region.free_spec hi hf) (by simpa using hr) hy hS h
 have h2:=hl.2
 simp only [hol,Array.any_eq_true'] at h2
 obtain ⟨e,he,h3⟩:=h2
 simp only [Bool.and_eq_true,beq_iff_eq] at h3
 exact ⟨e,he,h3.1,h3.2⟩
theorem rkb (i:Nat) {oi:Oper} {v:Value} {fuel:Nat} {listed l':Array Bool} {a a':Act} {w:World} (hi:ops[i]?=some oi) (hy:YieldsIf P ops S oi v a) (h:wpAnyL P md ops Q S last fuel l' a' w)
  (hs:Region.noSelect ops=true:=by kernel_rfl) (hf:Region.free md ops listed i=true:=by kernel_rfl) (hr:(Region.ready md ops listed).contains i=true:=by kernel_rfl) (hw:waitsFor md ops last i=true:=by kernel_rfl)
  (hQ:∀ c a w,Q (.panic c) (a.put oi.dst v) w→Q (.panic c) a w:=by exact fun _ _ _ h=>h) (hS:S w:=by assumption)
  (hl:listed.setIfInBounds i true=l':=by (try simp only [zA,zB,zC,zD,zE,zF,zG,zH]);(try rfl)) (ha:a.put oi.dst v=a':=by (try simp only [zA,zB,zC,zD,zE,zF,zG,zH]);(try rfl)):wpAnyL P md ops Q S last (fuel+1) listed a w:=by
 subst hl ha
 exact rl_take hi hs hf hr hw hQ hy hS h
theorem rk (i:Nat) {oi:Oper} {v:Value} {fuel:Nat} {listed l':Array Bool} {a a':Act} {w:World} (h:wpAnyL P md ops Q S last fuel l' a' w) (hi:ops[i]?=some oi:=by rfl)
  (hs:Region.noSelect ops=true:=by kernel_rfl) (hf:Region.free md ops listed i=true:=by kernel_rfl) (hr:(Region.ready md ops listed).contains i=true:=by kernel_rfl) (hw:waitsFor md ops last i=true:=by kernel_rfl)
  (hwt:Region.wanted oi (yielded ops a.tmps)=true:=by rfl)
  (hy:∀ w0,S w0→(execOp a.eval oi).run P w0=.ok (.value v) w0:=by intro w0 hSw;(try dsimp only at hSw);go_split_ands;go_simp;(try with_reducible rfl))
  (hQ:∀ c a w,Q (.panic c) (a.put oi.dst v) w→Q (.panic c) a w:=by exact fun _ _ _ h=>h) (hS:S w:=by assumption)
  (hl:listed.setIfInBounds i true=l':=by (try simp only [zA,zB,zC,zD,zE,zF,zG,zH]);(try rfl)) (ha:a.put oi.dst v=a':=by (try simp only [zA,zB,zC,zD,zE,zF,zG,zH]);(try rfl)):wpAnyL P md ops Q S last (fuel+1) listed a w :=
 rkb i hi (Or.inl ⟨hwt,hy⟩) h hs hf hr hw hQ hS hl ha
theorem rl_act {i:Nat} {o:Oper} {fuel:Nat} {listed:Array Bool} {a:Act} {w:World} (hr:Region.ready md ops listed=[i]) (ho:ops[i]?=some o)
  (h:∀ K':Act→World→Prop,Shut (∀ a w,S w→(S w→wpAnyL P md ops Q S last fuel (listed.setIfInBounds i true) a w)→K' a w)→if Region.wanted o (yielded ops a.tmps)=true then Oper.wp P o a w K' Q else K' (a.put o.dst undef) w) :
  wpAnyL P md ops Q S last (fuel+1) listed a w:=by
 refine ⟨fun h0=>(by rw [h0] at hr;cases hr),?_⟩
 rw [hr]
 intro j hj
 obtain rfl:j=i:=by simpa using hj
 exact wpOp_step ho (fun K' hK=>h K' (fun a w hS hW=>hK a w ⟨fun _=>hS,hW hS⟩))
theorem rl_last {o:Oper} {fuel:Nat} {listed:Array Bool} {a:Act} {w:World} (hr:Region.ready md ops listed=[last]) (hr2:Region.ready md ops (listed.setIfInBounds last true)=[]) (ho:ops[last]?=some o)
  (h:∀ K':Act→World→Prop,Shut (∀ a w,Q .normal a w→K' a w)→if Region.wanted o (yielded ops a.tmps)=true then Oper.wp P o a w K' Q else K' (a.put o.dst undef) w) :
  wpAnyL P md ops Q S last (fuel+1) listed a w:=by
 refine ⟨fun h0=>(by rw [h0] at hr;cases hr),?_⟩
 rw [hr]
 intro j hj
 obtain rfl:j=last:=by simpa using hj
 refine wpOp_step ho (fun K' hK=>h K' (fun a w hq=>hK a w ⟨fun hne=>absurd rfl hne,?_⟩))
 cases fuel with
 | zero=>exact ⟨hr2,hq⟩
 | succ f=>exact ⟨fun _=>hq,by rw [hr2];simp⟩
theorem rl_start {id:Nat} {a:Act} {w:World} (S:World→Prop) (last:Nat) (hm:P.follows .mixedOrders=true) (hS:S w.drew)
  (h:S w.drew→wpAnyL P .any ops Q S last ops.size (Array.replicate ops.size false) a w.drew):(Code.region id ops true).wp P Q a w :=
 wp_region_any hm (wpAny_of_L _ _ _ _ (h hS))
end
open Go
section
variable {P:Program} {ops:Array Oper} {Q:Exit→Act→World→Prop} {md:Region.Mode} {S:World→Prop}
def QuietAt (P:Program) (ρ:Operand→Value) (o:Oper) (v:Value) (w:World):Prop :=
 match (execOp ρ o).run P w with
 | .ok (.value u) w'=>u=v∧w'=w
 | .ok (.enter f args) w'=>w'=w∧Calls P f args w (fun e w''=>e=.returned v∧w=w'')
 | _=>False
theorem QuietAt.wp {o:Oper} {v:Value} {a:Act} {w:World} {K:Act→World→Prop} (h:QuietAt P a.eval o v w) (hK:K (a.put o.dst v) w):o.wp P a w K Q:=by
 unfold Oper.wp
 unfold QuietAt at h
 generalize (execOp a.eval o).run P w=r at *
 split at h
 ·obtain ⟨rfl,rfl⟩:=h
  exact hK
 ·obtain ⟨rfl,h⟩:=h
  rw [Oper.upon_enter]
  refine Calls.mono h fun e w'' he=>?_
  obtain ⟨rfl,rfl⟩:=he
  exact hK
 ·exact h.elim
def YieldsC (P:Program) (ops:Array Oper) (S:World→Prop) (o:Oper) (v:Value) (a:Act):Prop :=
 (Region.wanted o (yielded ops a.tmps)=true∧∀ w,S w→QuietAt P a.eval o v w)∨(Region.wanted o (yielded ops a.tmps)=false∧v=undef)
theorem YieldsC.wpOp {i:Nat} {o:Oper} {v:Value} {a:Act} (hi:ops[i]?=some o) (hy:YieldsC P ops S o v a)
  {K:Act→World→Prop} {w:World} (hS:S w) (h:K (a.put o.dst v) w):wpOp P ops Q i K a w:=by
 unfold Go.wpOp
 simp only [hi]
 rcases hy with ⟨hw,hv⟩ | ⟨hw,rfl⟩
 ·simp only [hw,if_true];exact .inl ((hv w hS).wp h)
 ·simp only [hw,Bool.false_eq_true,if_false];exact h
theorem YieldsC.of_same {o:Oper} {v:Value} {a a':Act} (hy:YieldsC P ops S o v a) (he:execOp a'.eval o=execOp a.eval o)
  (hw:Region.wanted o (yielded ops a'.tmps)=Region.wanted o (yielded ops a.tmps)):YieldsC P ops S o v a':=by
 unfold YieldsC QuietAt at *
 rw [he,hw]
 exact hy
theorem wpOp_putC {j:Nat} {oi oj:Oper} {v:Value} (hj:ops[j]?=some oj) (hap:oi.apart ops oj=true)
  (hsi:∀ cs b,oi.op≠.select cs b) (hsj:∀ cs b,oj.op≠.select cs b)
  (hQ:∀ c a w,Q (.panic c) (a.put oi.dst v) w→Q (.panic c) a w) {K:Act→World→Prop} {a:Act} {w:World}
  (hy:YieldsC P ops S oi v a) (h:wpOp P ops Q j K (a.put oi.dst v) w) :
  wpOp P ops Q j (fun a' w'=>YieldsC P ops S oi v a'∧K (a'.put oi.dst v) w') a w:=by
 obtain ⟨h1,h2,h3⟩:=Oper.apart_spec hap
 have keep:∀ (a:Act),YieldsC P ops S oi v a→∀ u,YieldsC P ops S oi v (a.put oj.dst u):=fun a hy u =>
  hy.of_same (execOp_put oi hsi a oj.dst u h3) (wanted_put oi a oj.dst u h3)
 have keepD:∀ d,YieldsC P ops S oi v { a with defers:=d :: a.defers }:=fun d=>hy.of_same rfl rfl
 unfold wpOp at *
 simp only [hj] at *
 rw [wanted_put oj a oi.dst v h1] at h
 split
 ·rename_i hw
  simp only [hw,if_true] at h
  rcases h with h | ⟨hasks,hlets⟩
  case inr=>exact .inr ⟨by unfold Oper.asks at *;rw [execOp_put oj hsj a oi.dst v h1] at hasks;exact hasks,hlets⟩
  refine .inl ?_
  unfold Oper.wp at *
  rw [execOp_put oj hsj a oi.dst v h1] at h
  generalize (execOp a.eval oj).run P w=r at *
  cases r with
  | ok n w' =>
   cases n <;> simp only [Oper.upon] at h ⊢
   case value u=>exact ⟨keep a hy u,by rw [← Act.put_comm a v u h2];exact h⟩
   case skip=>exact ⟨keep a hy _,by rw [← Act.put_comm a v undef h2];exact h⟩
   case defer d =>
    refine ⟨keep _ (keepD d) _,?_⟩
    rw [← Act.put_comm _ v undef h2,← Act.put_defers]
    exact h
   case enter f args =>
    refine Calls.mono h fun e w'' he=>?_
    cases e with
    | returned u=>exact ⟨keep a hy u,by rw [← Act.put_comm a v u h2];exact he⟩
    | panicked c=>exact hQ _ _ _ he
    | outgrown=>exact he
   case row row args=>exact Rows.mono h fun u w'' he=>⟨keep a hy u,by rw [← Act.put_comm a v u h2];exact he⟩
  | halt x w' =>
   cases x <;> simp only [Oper.upon] at h ⊢
   case panic u=>exact hQ _ _ _ h
 ·rename_i hw
  simp only [hw] at h
  exact ⟨keep a hy _,by rw [← Act.put_comm a v undef h2];exact h⟩
theorem wpAnyH_firstC {i:Nat} {oi:Oper} {v:Value} (hi:ops[i]?=some oi) (hsel:∀ (j:Nat) (o:Oper) cs b,ops[j]?=some o→o.op≠.select cs b)
  (hQ:∀ c a w,Q (.panic c) (a.put oi.dst v) w→Q (.panic c) a w) :
  ∀ (fuel:Nat) (listed:Array Bool) (a:Act) (w:World),
   (∀ j oj,ops[j]?=some oj→j≠i→listed.getD j true=false→(∀ e∈oj.after,Region.binds md e=true→e.on≠i)→oi.apart ops oj=true) →
   i∈Region.ready md ops listed→YieldsC P ops S oi v a→S w →
   wpAnyH P md ops Q S fuel (listed.setIfInBounds i true) (a.put oi.dst v) w→wpAnyH P md ops Q S (fuel+1) listed a w:=by
 intro fuel
 induction fuel with
 | zero =>
  intro listed a w _ hr hy hS H
  refine ⟨fun h=>(by rw [h] at hr;cases hr),fun j hj=>?_⟩
  by_cases hji:j=i
  ·subst hji;exact hy.wpOp hi hS ⟨hS,H⟩
  ·have:=ready_mono hj hji
   rw [H.1] at this
   cases this
 | succ fuel ih =>
  intro listed a w hfree hr hy hS H
  refine ⟨fun h=>(by rw [h] at hr;cases hr),fun j hj=>?_⟩
  by_cases hji:j=i
  ·subst hji;exact hy.wpOp hi hS ⟨hS,H⟩
  ·have h1:=H.2 j (ready_mono hj hji)
   obtain ⟨hjun,oj,hoj,hall⟩:=mem_ready.1 hj
   have hnot:∀ e∈oj.after,Region.binds md e=true→e.on≠i:=fun e he hb heq=>by
    have h1:=hall e he hb
    have h0:=(mem_ready.1 hr).1
    rw [heq] at h1
    rcases Nat.lt_or_ge i listed.size with h' | h'
    ·simp [h'] at h0 h1;rw [h0] at h1;cases h1
    ·simp [Array.getElem?_eq_none h'] at h1
   have h2:=wpOp_putC hoj (hfree j oj hoj hji hjun hnot) (fun cs b=>hsel i oi cs b hi) (fun cs b=>hsel j oj cs b hoj) hQ hy h1
   have hfree':∀ k ok,ops[k]?=some ok→k≠i→(listed.setIfInBounds j true).getD k true=false →
     (∀ e∈ok.after,Region.binds md e=true→e.on≠i)→oi.apart ops ok=true:=fun k ok hk hki hun hno=>by
    refine hfree k ok hk hki ?_ hno
    by_cases hjk:j=k
    ·subst hjk;exact hjun
    ·rw [getD_set_ne true hjk] at hun;exact hun
   refine wpOp_mono (fun a' w' h3=>⟨h3.2.1,ih (listed.setIfInBounds j true) a' w' hfree' (ready_mono hr (Ne.symm hji)) h3.1 h3.2.1 ?_⟩) h2
   rw [Array.setIfInBounds_comm _ _ hji]
   exact h3.2.2
theorem hc_take {i:Nat} {oi:Oper} {v:Value} {fuel:Nat} {listed:Array Bool} {a:Act} {w:World} (hi:ops[i]?=some oi)
  (hs:Region.noSelect ops=true) (hf:Region.free md ops listed i=true) (hr:(Region.ready md ops listed).contains i=true)
  (hQ:∀ c a w,Q (.panic c) (a.put oi.dst v) w→Q (.panic c) a w) (hy:YieldsC P ops S oi v a) (hS:S w)
  (h:wpAnyH P md ops Q S fuel (listed.setIfInBounds i true) (a.put oi.dst v) w):wpAnyH P md ops Q S (fuel+1) listed a w :=
 wpAnyH_firstC hi (Region.noSelect_spec hs) hQ fuel listed a w (Region.free_spec hi hf) (by simpa using hr) hy hS h
theorem run_callFunc_body {f:FuncId} {fn:Func} (hf:P.funcs[f]?=some fn) (hn:(fn.name == "runtime.NumGoroutine")=false) (hb:fn.body.isNone=false) (vs:Array Value) (w:World):(callFunc f vs).run P w=.ok (.enter f vs) w:=by
 have hn':fn.name ≠ "runtime.NumGoroutine" := by simpa using hn
 have hb':fn.body≠none:=by intro e;rw [e] at hb;cases hb
 simp [callFunc,hf,hn',hb',Sem.run]
theorem yieldsC_call {o:Oper} {v:Value} {a:Act} (hw:Region.wanted o (yielded ops a.tmps)=true) (f:FuncId) (xs:Array Operand) (ts:Array TypeId) (ho:o.op=.call { callee:=.value (.func f),args:=xs,argTypes:=ts })
  (fn:Func) (hf:P.funcs[f]?=some fn) (hn:(fn.name == "runtime.NumGoroutine")=false) (hb:fn.body.isNone=false)
  (vs:Array Value) (hvs:xs.map a.eval=vs) (h:∀ w,S w→Calls P f vs w (fun e w'=>e=.returned v∧w=w')):YieldsC P ops S o v a:=by
 refine .inl ⟨hw,fun w hS=>?_⟩
 subst hvs
 have hr:=run_callFunc_body hf hn hb (xs.map a.eval) w
 have:(execOp a.eval o).run P w=.ok (.enter f (xs.map a.eval)) w:=by
  unfold execOp
  simp [ho,resolve,Deferred.ofValue,Act.eval,invoke] at hr ⊢
  exact hr
 unfold QuietAt
 rw [this]
 exact ⟨rfl,h w hS⟩
end
open Go.RowKit
def From (w:World) (F F':List Nat):Prop:=∀ k∈F',k∈F∨w.heap.size≤k
theorem From.refl (w:World) (F:List Nat):From w F F:=fun _ h=>.inl h
theorem From.trans {w w':World} {F F' F'':List Nat} (h:From w F F') (h':From w' F' F'') (hs:w.heap.size≤w'.heap.size):From w F F'':=fun k hk =>
 (h' k hk).elim (h k) (fun hle=>.inr (by omega))
structure Thing where
 F:List Nat
 P:World→Prop
 stays:∀ w w':World,P w→(∀ k∈F,w'.heap[k]?=w.heap[k]?)→P w'
 lt:∀ w,P w→∀ k∈F,k < w.heap.size
structure Live (w:World) (base:Nat) (L:List Thing):Prop where
 all:∀ t∈L,t.P w∧∀ k∈t.F,base≤k
 apart:L.Pairwise (fun s t=>∀ k∈s.F,k ∉ t.F)
namespace Live
variable {w w':World} {base:Nat} {L:List Thing} {t t':Thing}
theorem nil (w:World) (base:Nat):Live w base []:=⟨by simp,.nil⟩
theorem get (h:Live w base L) {i:Nat} (hi:L[i]?=some t):t.P w:=(h.all t (List.mem_of_getElem? hi)).1
theorem ge (h:Live w base L) {i:Nat} (hi:L[i]?=some t):∀ k∈t.F,base≤k:=(h.all t (List.mem_of_getElem? hi)).2
theorem keep (h:Live w base L) (hk:Keeps [] w w'):Live w' base L :=
 ⟨fun t ht=>⟨t.stays w w' (h.all t ht).1 (fun k hk'=>hk.block k (t.lt w (h.all t ht).1 k hk') (by simp)),(h.all t ht).2⟩,h.apart⟩
theorem add (h:Live w base L) (hk:Keeps [] w w') (hp:t.P w') (hf:From w [] t.F) (hb:base≤w.heap.size):Live w' base (t :: L):=by
 have h':=h.keep hk
 have hn:∀ k∈t.F,w.heap.size≤k:=fun k hk'=>(hf k hk').resolve_left (by simp)
 refine ⟨fun s hs=>?_,List.Pairwise.cons (fun s hs k hk' hks=>?_) h.apart⟩
 ·rcases List.mem_cons.1 hs with rfl | hs
  ·exact ⟨hp,fun k hk'=>Nat.le_trans hb (hn k hk')⟩
  ·exact h'.all s hs
 ·have h1:=s.lt w (h.all s hs).1 k hks
  have h2:=hn k hk'
  omega
theorem apart_of (h:Live w base L) {i j:Nat} (hij:i≠j) {s:Thing} (hi:L[i]?=some t) (hj:L[j]?=some s):∀ k∈t.F,k ∉ s.F:=by
 obtain ⟨hi',rfl⟩:=List.getElem?_eq_some_iff.1 hi
 obtain ⟨hj',rfl⟩:=List.getElem?_eq_some_iff.1 hj
 rcases Nat.lt_or_ge i j with hlt | hge
 ·exact List.pairwise_iff_getElem.1 h.apart i j hi' hj' hlt
 ·have:=List.pairwise_iff_getElem.1 h.apart j i hj' hi' (by omega)
  exact fun k hk hk'=>this k hk' hk
theorem upd (h:Live w base L) {i:Nat} (hi:L[i]?=some t) (hk:Keeps t.F w w') (hp:t'.P w') (hf:From w t.F t'.F) (hb:base≤w.heap.size):Live w' base (L.set i t'):=by
 obtain ⟨hlt,hit⟩:=List.getElem?_eq_some_iff.1 hi
 have hge:∀ k∈t'.F,base≤k:=fun k hk'=>(hf k hk').elim (h.ge hi k) (Nat.le_trans hb)
 have far:∀ j s,j≠i→L[j]?=some s→(∀ k∈s.F,k ∉ t'.F):=fun j s hj hs k hks hkt=>by
  rcases hf k hkt with hkt | hkt
  ·exact h.apart_of (Ne.symm hj) hi hs k hkt hks
  ·have:=s.lt w (h.get hs) k hks
   omega
 refine ⟨fun s hs=>?_,?_⟩
 ·obtain ⟨j,hj,rfl⟩:=List.getElem_of_mem hs
  rw [List.length_set] at hj
  by_cases e:j=i
  ·subst e
   rw [List.getElem_set_self]
   exact ⟨hp,hge⟩
  ·rw [List.getElem_set_ne (Ne.symm e)]
   have hs':L[j]?=some L[j]:=List.getElem?_eq_getElem hj
   refine ⟨L[j].stays w w' (h.get hs') (fun k hk'=>hk.block k (L[j].lt w (h.get hs') k hk') ?_),h.ge hs'⟩
   exact h.apart_of e hs' hi k hk'
 ·rw [List.pairwise_iff_getElem]
  intro a b ha hb' hab
  rw [List.length_set] at ha hb'
  have ha':L[a]?=some L[a]:=List.getElem?_eq_getElem ha
  have hb'':L[b]?=some L[b]:=List.getElem?_eq_getElem hb'
  by_cases ea:a=i
  ·subst ea
   rw [List.getElem_set_self,List.getElem_set_ne (by omega)]
   exact fun k hk' hkb=>far b _ (by omega) hb'' k hkb hk'
  ·by_cases eb:b=i
   ·subst eb
    rw [List.getElem_set_self,List.getElem_set_ne (by omega)]
    exact far a _ ea ha'
   ·rw [List.getElem_set_ne (by omega),List.getElem_set_ne (by omega)]
    exact h.apart_of (by omega) ha' hb''
theorem below (h:Live w base L) {i:Nat} (hi:L[i]?=some t) (hk:Keeps t.F w w') (hb:base≤w.heap.size):Below base w w':=hk.below hb (h.ge hi)
end Live
theorem Keeps.below0 {w w':World} {base:Nat} (hk:Keeps [] w w') (hb:base≤w.heap.size):Below base w w':=hk.below hb (by simp)
open Go.RowKit
theorem lt_of_heap {w:World} {b:Nat} {o:Obj} (h:w.heap[b]?=some o):b < w.heap.size:=lt_of_block h
theorem ownsRow_keep {w w':World} {base:Nat} {e:TypeId} {size:Nat} {v:Value} {n:Nat} {xs:List Value} (h:w.ownsRow base e size v n xs) (hb:∀ k,v.ownBlock=some k→w'.heap[k]?=w.heap[k]?):w'.ownsRow base e size v n xs:=by
 obtain ⟨h1,h2⟩:=h
 refine ⟨h1,?_⟩
 rcases h2 with h2 | ⟨g,cap,cur,rfl,hg,hh,r⟩
 ·exact .inl h2
 ·exact .inr ⟨g,cap,cur,rfl,hg,(hb g rfl).trans hh,r⟩
theorem info_u8:(Tryz.prog.info? 5).map (fun i=>(i.zero,i.size,i.bytes))=some (some (.int .u8 0),1,1):=by kernel_rfl
def OwnB (w:World) (v:Value) (l:List UInt8):Prop:=w.ownsRow 0 5 1 v l.length (l.map B)
theorem wl_append_nil {ops:Array Oper} {rest:List Oper} {o:Oper} {a:Act} {w:World} {Q:Exit→Act→World→Prop} (hg:o.guard=none) (s x:Operand)
  (ho:o.op=.call { callee:=.builtin .append,args:=#[s,x],argTypes:=#[36,36] }) (hs:a.eval s=.slice none 0 0) {g o' n c:Nat} (hx:a.eval x=.slice (some ⟨g,o',none⟩) n c)
  (l:List UInt8) (hl:l.length=n) (hn:0 < n) (hr:w.rangeAt g o' (l.map B)) (hb:n≤140737488355328)
  (h:∀ cap w',OwnB w' (.slice (some ⟨w.heap.size,0,none⟩) n cap) l→w.grownBy w' none→w.heap.size < w'.heap.size→wpList Tryz.prog ops Q rest (a.put o.dst (.slice (some ⟨w.heap.size,0,none⟩) n cap)) w') :
  wpList Tryz.prog ops Q (o :: rest) a w:=by
 obtain ⟨i0,hi0,hz0,hz1,hz2⟩:=info_parts info_u8
 refine wpList_append_lies w hg s x 36 ho 0 5 i0 (.int .u8 0) 1 1 Tryz.underlying36 hi0 hz0 hz1 hz2 rfl (by omega) (.slice none 0 0) 0 [] hs (World.ownsRow_nil _ _ _ _) ⟨g,o',none⟩ n c (l.map B) hx (by simp [hl])
  (fun j u hu=>by rw [Addr.add_mid];exact hr j u hu) (B_one l) hn (by simp only [maxLen];omega) (by omega) (by omega) w.heap.size rfl ?_
 intro g' cap w' h1 h2 h3 h4
 have e:g'=w.heap.size:=by
  rcases h3 with h3 | h3
  ·simp [Value.ownBlock] at h3
  ·exact h3
 subst e
 simp only [Nat.zero_add,List.nil_append] at h1 ⊢
 refine h cap w' ?_ h2 h4
 unfold OwnB
 rw [hl]
 exact h1
theorem ownB_bytes {w:World} {v:Value} {l:List UInt8} (h:OwnB w v l):BytesAt w v l:=by
 rcases h.2 with ⟨rfl,h0⟩ | ⟨g,cap,cur,rfl,_,hh,h1,h2,h3,h4⟩
 ·exact .inl ⟨List.eq_nil_of_length_eq_zero h0,none,0,rfl,by simp [maxLen]⟩
 ·refine .inr ⟨g,0,cap,rfl,h1,h2,lt_of_heap hh,fun j u hj=>?_⟩
  rw [Nat.zero_add,cell_of_row w g j _ _ _ hh]
  rw [← h4,List.getElem?_take] at hj
  split at hj
  ·simpa using hj
  ·cases hj
def bytesThing (v:Value) (l:List UInt8):Thing:=⟨v.ownBlock.toList,fun w=>OwnB w v l,fun _ _ h hk=>ownsRow_keep h (fun k hv=>hk k (by simp [hv])),fun _ h k hk=>(World.ownsRow.lt h k (by simpa using hk)).2⟩
theorem elemBlock_own {v:Value} {k:Nat} (h:v.elemBlock=some k):v.ownBlock=some k:=by
 unfold Value.elemBlock at h
 split at h
 ·simpa [Value.ownBlock] using h
 ·cases h
structure At (w0 w:World) (L:List Thing):Prop where
 below:Below w0.heap.size w0 w
 live:Live w w0.heap.size L
namespace At
variable {w0 w w':World} {L:List Thing} {t t':Thing}
theorem start (w:World):At w w []:=⟨Below.refl _ _,Live.nil _ _⟩
theorem le (h:At w0 w L):w0.heap.size≤w.heap.size:=h.below.size
theorem keep (h:At w0 w L) (hk:Keeps [] w w'):At w0 w' L:=⟨h.below.trans (hk.below0 h.le),h.live.keep hk⟩
theorem add (h:At w0 w L) (hk:Keeps [] w w') (hp:t.P w') (hf:From w [] t.F):At w0 w' (t :: L):=⟨h.below.trans (hk.below0 h.le),h.live.add hk hp hf h.le⟩
theorem upd (h:At w0 w L) (i:Nat) (hi:L[i]?=some t) (hk:Keeps t.F w w') (hp:t'.P w') (hf:From w t.F t'.F):At w0 w' (L.set i t') :=
 ⟨h.below.trans (h.live.below hi hk h.le),h.live.upd hi hk hp hf h.le⟩
theorem ge (h:At w0 w L) (i:Nat) (hi:L[i]?=some t):∀ k∈t.F,w0.heap.size≤k:=h.live.ge hi
theorem bytes (h:At w0 w L) (i:Nat) {v:Value} {l:List UInt8} (hi:L[i]?=some (bytesThing v l)):OwnB w v l:=h.live.get hi
end At
theorem ownsRow_base {w:World} {base:Nat} {e:TypeId} {size:Nat} {v:Value} {n:Nat} {xs:List Value} (h:w.ownsRow base e size v n xs):w.ownsRow 0 e size v n xs:=by
 obtain ⟨h1,h2⟩:=h
 refine ⟨h1,?_⟩
 rcases h2 with h2 | ⟨g,cap,cur,hv,hg,r⟩
 ·exact .inl h2
 ·exact .inr ⟨g,cap,cur,hv,Nat.zero_le _,r⟩
theorem BytesAt.form {w:World} {v:Value} {l:List UInt8} (h:BytesAt w v l):∃ a c,v=.slice a l.length c∧l.length≤c∧c≤maxLen:=by
 rcases h with ⟨rfl,a,c,rfl,hc⟩ | ⟨g,o,cap,rfl,h1,h2,_⟩
 ·exact ⟨a,c,rfl,Nat.zero_le _,hc⟩
 ·exact ⟨_,_,rfl,h1,h2⟩
theorem BytesAt.at {w:World} {a:Option Addr} {n c:Nat} {l:List UInt8} (h:BytesAt w (.slice a n c) l) (hn:0 < l.length):∃ g o,a=some ⟨g,o,none⟩∧g < w.heap.size∧w.rangeAt g o (l.map B):=by
 rcases h with ⟨h0,_⟩ | ⟨g,o,cap,hv,_,_,h3,h4⟩
 ·subst h0;simp at hn
 ·injection hv with e _ _
  exact ⟨g,o,e,h3,h4⟩
theorem range_byte {w w':World} {g o k:Nat} {l:List UInt8} (h:w.rangeAt g o (l.map B)) (hb:w'.heap[g]?=w.heap[g]?) {x:UInt8} (hx:l[k]?=some x):w'.cell? ⟨g,o+k,none⟩=some (.int .u8 x.toNat):=by
 rw [World.cell?_of_block (w:=w) (w':=w') (a:=⟨g,o+k,none⟩) hb]
 exact h k _ (by rw [List.getElem?_map,hx];rfl)
open Go.RowKit
theorem isAgg_u8 (w:World):(isAgg 5).run Tryz.prog w=.ok false w:=by kernel_rfl
theorem sizeOf_u8 (w:World):(sizeOf 5).run Tryz.prog w=.ok 1 w:=by kernel_rfl
theorem underlying_u8:Tryz.prog.underlying 5=some (.int .u8):=Tryz.underlying5
theorem run_equalIn_bytes (w:World) (d:Nat) {t:TypeId} {n:Nat} (hu:Tryz.prog.underlying t=some (.array n 5)) {l1 l2:List UInt8} (h1:l1.length=n) (h2:l2.length=n) :
  (Op.equalIn (d+2) t (.agg (l1.map B).toArray) (.agg (l2.map B).toArray)).run Tryz.prog w=.ok (l1 == l2) w:=by
 rw [Op.equalIn]
 simp only [Sem.run_bind,run_underlying hu,Result.andThen_ok,sizeOf_u8,Nat.mul_one,Std.Legacy.Range.forIn_eq_forIn_range',Std.Legacy.Range.size]
 have hpart:∀ (l:List UInt8) (k:Nat) (x:UInt8),l[k]?=some x→(part 5 (l.map B).toArray k).run Tryz.prog w=.ok (B x) w:=fun l k x hx=>by
  simp only [part,isAgg_u8,Sem.run_bind,Result.andThen_ok]
  simp [hx]
 have hsub:(n - 0+1 - 1) / 1=n:=by simp
 rw [hsub]
 have key:∀ (k s:Nat),s+k=n→l1.take s=l2.take s →
   (forIn (List.range' s k) ((none,()):Option Bool × Unit) fun i _=>(do
    let a ← part 5 (l1.map B).toArray i
    let b ← part 5 (l2.map B).toArray i
    let e ← Op.equalIn (d+1) 5 a b
    if (!e)=true then pure (ForInStep.done (some false,())) else pure (ForInStep.yield (none,())):Sem (ForInStep (Option Bool × Unit)))).run Tryz.prog w=.ok (if l1 == l2 then none else some false,()) w:=by
  intro k
  induction k with
  | zero =>
   intro s hs ht
   rw [List.take_of_length_le (by omega),List.take_of_length_le (by omega)] at ht
   subst ht
   simp
  | succ k ih =>
   intro s hs ht
   have g1:s < l1.length:=by omega
   have g2:s < l2.length:=by omega
   have q1:=hpart l1 s l1[s] (List.getElem?_eq_getElem g1)
   have q2:=hpart l2 s l2[s] (List.getElem?_eq_getElem g2)
   rw [List.range'_succ,List.forIn_cons]
   simp only [Sem.run_bind,q1,q2,Result.andThen_ok,B,run_equalIn_int w d 5 .u8 .u8 _ _ underlying_u8]
   by_cases hx:l1[s]=l2[s]
   ·have e:((l1[s].toNat:Int) == (l2[s].toNat:Int))=true:=by rw [hx];simp
    simp only [e,Bool.not_true,Bool.false_eq_true,if_false,Sem.run_pure,Result.andThen_ok]
    have h:=ih (s+1) (by omega) (by rw [List.take_succ_eq_append_getElem g1,List.take_succ_eq_append_getElem g2,ht,hx])
    simpa only [Sem.run_bind] using h
   ·have e:((l1[s].toNat:Int) == (l2[s].toNat:Int))=false:=by
     rw [beq_eq_false_iff_ne]
     intro h
     exact hx (UInt8.toNat_inj.1 (by omega))
    have hne:(l1 == l2)=false:=by
     rw [beq_eq_false_iff_ne]
     intro h
     subst h
     exact hx rfl
    simp [e,hne]
 have h:=key n 0 (by omega) (by simp)
 rw [h]
 cases l1 == l2 <;> simp
end Go.Proofs.YtakaocenbempmaaGreatDoor
