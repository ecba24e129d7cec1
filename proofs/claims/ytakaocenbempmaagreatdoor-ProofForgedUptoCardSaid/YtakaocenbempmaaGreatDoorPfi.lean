/-
  Lemmas of a claim, bundle i: XOpenPf XOpenKey XOpenRows.
-/
import Derived.Lib.SmallJoins
import Derived.Test.YtakaocenbempmaaGreatDoorPfh
import Derived.Test.YtakaocenbempmaaGreatDoorPfH
set_option linter.unusedVariables false
set_option linter.unusedSimpArgs false
namespace Go.Proofs.YtakaocenbempmaaGreatDoor
open Go.ChangeShapes Go.WideShapes Go.ChangeAt Go.RowKit Go.Deep Go.Lib Go.Joins
section
variable {H:Type} {enc:TypeId × Value→H} {w:World} {base:Nat} {spare:Nat→Bool} {held:Bool} {fuel:Nat} {cs:List Value} {d:DataW H} {ps:List MemPlace}
set_option maxRecDepth 10000 in
theorem open_bs_cell (hf:DataW.trod enc Tryz.prog w base spare held fuel 36 cs=some (d,ps)):∃ v l,cs=[v]∧BytesAt w v l∧l.length≤Rows.uptoBulk d:=by
 rcases open_slice1 Tryz.underlying36 cells_u8' hf with ⟨hc,hx⟩ | ⟨a',len',cap',m,n,V,Df,Pl,hc,_,hl,hm,hmm,hx,hi⟩
 ·exact ⟨_,[],hc,.inl ⟨rfl,none,0,rfl,by simp [maxLen]⟩,Nat.zero_le _⟩
 ·have hlm:len'≤m:=by rw [hmm];split <;> omega
  have hex:∀ i,i < len'→∃ c:UInt8,V i=B c:=by
   intro i hil
   obtain ⟨_,ht⟩:=hi i (by omega)
   obtain ⟨q,e,_,wq⟩:=DataW.trod_int Tryz.underlying5 ht
   simp only [List.cons.injEq,and_true] at e
   have hb:=bounds_u8 wq
   refine ⟨q.toNat.toUInt8,?_⟩
   rw [e]
   unfold B
   congr 1
   simp
   omega
  obtain ⟨f,hf'⟩:=choose_lt hex
  simp only [Prod.mk.injEq] at hx
  refine ⟨_,(List.range len').map f,hc,?_,?_⟩
  ·by_cases h0:len'=0
   ·subst h0
    exact .inl ⟨rfl,some a',cap',rfl,hm⟩
   ·have hok0:=(hi 0 (by omega)).1
    have e0:a'.add 0=a':=by unfold Addr.add;simp
    rw [e0] at hok0
    have hs:=spot_none_of hok0
    obtain ⟨g,o,sp⟩:=a'
    simp only at hs
    subst hs
    have hg:=World.block_lt_of_cell? w _ hok0
    refine .inr ⟨g,o,cap',by simp,by simpa using hl,hm,hg,fun j u hj=>?_⟩
    have hj':j < len':=by
     have:=(List.getElem?_eq_some_iff.1 hj).1
     simpa using this
    simp only [List.getElem?_map,List.getElem?_range hj',Option.map_some,Option.some.injEq] at hj
    have:=(hi j (by omega)).1
    rw [hf' j hj',Addr.add_mid,hj] at this
    exact this
  ·rw [hx.1]
   have:=bulk_slice ((List.range len').map Df) ((List.range (m - len')).map fun j=>Df (len'+j))
   simpa using this
set_option maxRecDepth 10000 in
theorem open_row32 {t:TypeId} (hu:Tryz.prog.underlying t=some (.array 32 5)) (hc:Tryz.prog.cellsOf t=32) {x:DataW H × List MemPlace} (h:DataW.trod enc Tryz.prog w base spare held fuel t cs=some x):∃ s:List UInt8,s.length=32∧cs=s.map B:=by
 obtain ⟨ys,m,_,_,hl,hyl,hg⟩:=DataW.trod_array hu h
 simp only [cells_u8'] at hg
 rw [hc] at hl
 have hex:∀ i,i < 32→∃ c:UInt8,cs[i]?=some (B c):=by
  intro i hi
  have:=hg i hi
  have hi':i < cs.length:=by omega
  rw [Nat.mul_one,List.drop_eq_getElem_cons hi',List.take_succ_cons,List.take_zero,List.getElem?_eq_getElem (by omega)] at this
  obtain ⟨q,e,_,wq⟩:=DataW.trod_int Tryz.underlying5 this
  simp only [List.cons.injEq,and_true] at e
  have hb:=bounds_u8 wq
  refine ⟨q.toNat.toUInt8,?_⟩
  rw [List.getElem?_eq_getElem hi',e]
  unfold B
  congr 2
  simp
  omega
 obtain ⟨f,hf'⟩:=choose_lt hex
 refine ⟨(List.range 32).map f,by simp,List.ext_getElem? fun i=>?_⟩
 by_cases hi:i < 32
 ·rw [hf' i hi]
  simp [hi]
 ·rw [List.getElem?_eq_none (by omega),List.getElem?_eq_none (by simp;omega)]
theorem cells_bytes:Tryz.prog.cellsOf 36=1:=by kernel_rfl
end
open Go.ChangeShapes Go.WideShapes Go.ChangeAt Go.RowKit Go.Deep Go.Lib Go.Joins
theorem cells_key:Tryz.prog.cellsOf 60=32:=by kernel_rfl
open Go.ChangeShapes Go.WideShapes Go.ChangeAt Go.RowKit Go.Deep Go.Lib Go.Joins
def RowsAt {X:Type} (n:Nat) (R:World→List Value→X→Prop) (w:World) (v:Value) (l:List X):Prop :=
 (l=[]∧∃ a c,v=.slice a 0 c∧c≤maxLen)∨∃ g o cap,v=.slice (some ⟨g,o,none⟩) l.length cap∧l.length≤cap∧cap≤maxLen∧g < w.heap.size∧∀ k (hk:k < l.length),∃ cs,R w cs l[k]∧w.rangeAt g (o+k * n) cs
theorem bulk_mem' {H:Type} {d:DataW H} {l:List (DataW H)} (h:d∈l):Rows.uptoBulk d≤Rows.uptoBulkAll l:=by
 induction l with
 | nil=>cases h
 | cons x l ih =>
  simp only [Rows.uptoBulkAll]
  rcases List.mem_cons.1 h with rfl | h
  ·omega
  ·have:=ih h;omega
set_option maxRecDepth 10000 in
theorem open_rows {X:Type} [Inhabited X] {H:Type} {enc:TypeId × Value→H} {w:World} {base:Nat} {spare:Nat→Bool} {held:Bool} {v:Value} {d:DataW H} {ps:List MemPlace} {r:Reach} {b0:Nat} {ts te:TypeId} {c:Nat}
  (hu:Tryz.prog.underlying ts=some (.slice te)) (hc:Tryz.prog.cellsOf te=c) (h0c:0 < c) (R:World→List Value→X→Prop) (m:X→Nat) (hR:∀ cs x,R w cs x→cs.length=c)
  (hopen:∀ fuel cs (d:DataW H) ps,DataW.trod enc Tryz.prog w base spare held fuel te cs=some (d,ps)→∃ x,R w cs x∧m x≤Rows.uptoBulk d)
  (hv:Value.okWide Tryz.prog w r b0 ts v) (h:DataW.Trod enc Tryz.prog w base spare held ts v d ps):∃ l,RowsAt c R w v l∧l.length≤Rows.uptoBulk d∧∀ x∈l,m x≤Rows.uptoBulk d:=by
 obtain ⟨a,len,cap,rfl⟩:=okWide_slice hu hv
 obtain ⟨fuel,hf⟩:=h
 rcases open_slice hu hf with ⟨hcc,hx⟩ | ⟨a',len',cap',mm,n,Df,Pl,hcc,_,hl,hm,hmm,hx,hi⟩
 ·simp only [Value.cells,List.cons.injEq,and_true] at hcc
  injection hcc with h1 h2 h3
  subst h1 h2 h3
  exact ⟨[],.inl ⟨rfl,none,0,rfl,by simp [maxLen]⟩,by simp,by simp⟩
 ·simp only [Value.cells,List.cons.injEq,and_true] at hcc
  injection hcc with h1 h2 h3
  subst h1 h2 h3
  rw [hc] at hi
  have hlm:len≤mm:=by rw [hmm];split <;> omega
  simp only [Prod.mk.injEq] at hx
  have hall:Rows.uptoBulkAll ((List.range len).map Df)≤Rows.uptoBulk d:=by
   rw [hx.1]
   simp only [Rows.uptoBulk]
   omega
  have hlen:len≤Rows.uptoBulk d:=by
   have:=bulk_length ((List.range len).map Df)
   simp only [List.length_map,List.length_range] at this
   omega
  have hex:∀ i,i < len→∃ x:X,(∃ cs,R w cs x∧∀ j u,cs[j]?=some u→w.cell? (a'.add (i * c+j))=some u)∧m x≤Rows.uptoBulk d:=by
   intro i hil
   obtain ⟨cs',hcs,ht⟩:=hi i (by omega)
   obtain ⟨x,hxp,hxb⟩:=hopen _ _ _ _ ht
   obtain ⟨_,hcl,hat⟩:=World.cells?_some hcs
   refine ⟨x,⟨cs',hxp,fun j u hj=>?_⟩,?_⟩
   ·have hjl:=(List.getElem?_eq_some_iff.1 hj).1
    rw [← Go.Deep.add_add,hat j (by have:=hR _ _ hxp;omega)]
    exact hj
   ·have:=bulk_mem' (show Df i∈(List.range len).map Df from List.mem_map.2 ⟨i,List.mem_range.2 hil,rfl⟩)
    omega
  obtain ⟨f,hf'⟩:=choose_lt hex
  refine ⟨(List.range len).map f,?_,by simpa using hlen,?_⟩
  ·by_cases h0:len=0
   ·subst h0
    exact .inl ⟨rfl,some a',cap,rfl,hm⟩
   ·obtain ⟨⟨cs0,hp0,hc0⟩,_⟩:=hf' 0 (by omega)
    have hok0:=hc0 0 (cs0[0]'(by rw [hR _ _ hp0];omega)) (List.getElem?_eq_getElem _)
    have hs:a'.spot=none:=by
     cases hsp:a'.spot with
     | none=>rfl
     | some s =>
      simp only [Nat.zero_mul,Nat.add_zero] at hok0
      have e:a'.add 0=a':=by unfold Addr.add;simp
      rw [e] at hok0
      unfold World.cell? at hok0
      split at hok0
      ·simp [hsp] at hok0
      ·cases hok0
    obtain ⟨g,o,sp⟩:=a'
    simp only at hs
    subst hs
    have hg:=World.block_lt_of_cell? w _ hok0
    simp only [Nat.zero_mul,Nat.add_zero,Addr.add_mid] at hg
    refine .inr ⟨g,o,cap,by simp,by simpa using hl,hm,hg,fun k hk=>?_⟩
    have hk':k < len:=by simpa using hk
    obtain ⟨⟨cs,hp,hcc⟩,_⟩:=hf' k hk'
    refine ⟨cs,by simpa using hp,fun j u hj=>?_⟩
    have:=hcc j u hj
    rw [Addr.add_mid] at this
    rw [Nat.add_assoc]
    exact this
  ·intro x hx'
   obtain ⟨i,hi',rfl⟩:=List.mem_map.1 hx'
   exact (hf' i (List.mem_range.1 hi')).2
def PgIn (w:World) (cs:List Value) (x:Int × List UInt8):Prop:=∃ lv,cs=[.int .i64 x.1,lv]∧BytesAt w lv x.2
def AskIn (w:World) (cs:List Value) (x:Int × List UInt8):Prop:=cs=.int .i64 x.1 :: x.2.map B∧x.2.length=32
theorem cells_ppage:Tryz.prog.cellsOf 38=2:=by kernel_rfl
theorem cells_proot:Tryz.prog.cellsOf 62=33:=by kernel_rfl
theorem cells_int:Tryz.prog.cellsOf 3=1:=by kernel_rfl
section
variable {H:Type} {enc:TypeId × Value→H} {w:World} {base:Nat} {spare:Nat→Bool} {held:Bool}
set_option maxRecDepth 10000 in
theorem open_page (fuel:Nat) (cs:List Value) (d:DataW H) (ps:List MemPlace) (hf:DataW.trod enc Tryz.prog w base spare held fuel 38 cs=some (d,ps)):∃ x,PgIn w cs x∧x.2.length≤Rows.uptoBulk d:=by
 obtain ⟨xs,n,_,hx,hl,hxl,hq⟩:=DataW.trod_struct Tryz.underlying38 hf
 rw [cells_ppage] at hl
 obtain ⟨y0,y1,rfl⟩:∃ y0 y1,xs=[y0,y1]:=by
  match xs,hxl with
  | [y0,y1],_=>exact ⟨_,_,rfl⟩
 have h0:=hq 0 _ rfl
 have h1:=hq 1 _ rfl
 simp only [List.getElem_toArray,List.getElem_cons_zero,List.getElem_cons_succ,cells_int,cells_bytes,List.drop_zero,List.getElem?_cons_zero,List.getElem?_cons_succ] at h0 h1
 simp only [Prod.mk.injEq] at hx
 obtain ⟨k,e0,_,_⟩:=DataW.trod_int Tryz.underlying3 h0
 obtain ⟨rv,raw,e1,hr,b1⟩:=open_bs_cell (d:=y1.1) (ps:=y1.2) h1
 have ec:cs=cs.take 1++(cs.drop 1).take 1:=by
  have t1:(cs.drop 1).take 1=cs.drop 1:=List.take_of_length_le (by rw [List.length_drop];omega)
  rw [t1,List.take_append_drop]
 rw [e0,e1] at ec
 refine ⟨(k,raw),⟨rv,ec,hr⟩,?_⟩
 rw [hx.1]
 simp only [List.map_cons,List.map_nil,Rows.uptoBulk,Rows.uptoBulkAll]
 omega
set_option maxRecDepth 10000 in
theorem open_ask (fuel:Nat) (cs:List Value) (d:DataW H) (ps:List MemPlace) (hf:DataW.trod enc Tryz.prog w base spare held fuel 62 cs=some (d,ps)):∃ x,AskIn w cs x∧0≤Rows.uptoBulk d:=by
 obtain ⟨xs,n,_,hx,hl,hxl,hq⟩:=DataW.trod_struct Tryz.underlying62 hf
 rw [cells_proot] at hl
 obtain ⟨y0,y1,rfl⟩:∃ y0 y1,xs=[y0,y1]:=by
  match xs,hxl with
  | [y0,y1],_=>exact ⟨_,_,rfl⟩
 have h0:=hq 0 _ rfl
 have h1:=hq 1 _ rfl
 simp only [List.getElem_toArray,List.getElem_cons_zero,List.getElem_cons_succ,cells_int,cells_key,List.drop_zero,List.getElem?_cons_zero,List.getElem?_cons_succ] at h0 h1
 simp only [Prod.mk.injEq] at hx
 obtain ⟨k,e0,_,_⟩:=DataW.trod_int Tryz.underlying3 h0
 obtain ⟨s,hs,e1⟩:=open_row32 Tryz.underlying60 cells_key h1
 have ec:cs=cs.take 1++(cs.drop 1).take 32:=by
  have t1:(cs.drop 1).take 32=cs.drop 1:=List.take_of_length_le (by rw [List.length_drop];omega)
  rw [t1,List.take_append_drop]
 rw [e0,e1] at ec
 exact ⟨(k,s),⟨ec,hs⟩,Nat.zero_le _⟩
end
set_option maxRecDepth 100000 in
theorem open_pages {H:Type} {enc:TypeId × Value→H} {w:World} {base:Nat} {spare:Nat→Bool} {held:Bool} {v:Value} {d:DataW H} {ps:List MemPlace} {r:Reach} {b0:Nat}
  (hv:Value.okWide Tryz.prog w r b0 22 v) (h:DataW.Trod enc Tryz.prog w base spare held 22 v d ps):∃ l,RowsAt 2 PgIn w v l∧l.length≤Rows.uptoBulk d∧∀ x∈l,x.2.length≤Rows.uptoBulk d :=
 open_rows Tryz.underlying22 cells_ppage (by omega) PgIn (fun x=>x.2.length) (fun cs x ⟨_,e,_⟩=>by rw [e];rfl) open_page hv h
set_option maxRecDepth 100000 in
theorem open_asks {H:Type} {enc:TypeId × Value→H} {w:World} {base:Nat} {spare:Nat→Bool} {held:Bool} {v:Value} {d:DataW H} {ps:List MemPlace} {r:Reach} {b0:Nat}
  (hv:Value.okWide Tryz.prog w r b0 23 v) (h:DataW.Trod enc Tryz.prog w base spare held 23 v d ps):∃ l,RowsAt 33 AskIn w v l∧l.length≤Rows.uptoBulk d:=by
 obtain ⟨l,h1,h2,_⟩:=open_rows Tryz.underlying23 cells_proot (by omega) AskIn (fun _=>0) (fun cs x ⟨e,hl⟩=>by rw [e];simp [hl]) open_ask hv h
 exact ⟨l,h1,h2⟩
end Go.Proofs.YtakaocenbempmaaGreatDoor
