/-
  Lemmas of a claim, bundle a: XQD XQE XPrL XPrM.
-/
import Derived.Test.YtakaocenbempmaaGreatDoorPfZ
import Derived.Deep.CutBlock
import Derived.Deep.DeepCutAuto
import Derived.Test.YtakaocenbempmaaGreatDoorPfV
import Derived.Test.YtakaocenbempmaaGreatDoorPfP
set_option linter.unusedVariables false
set_option linter.unusedSimpArgs false
namespace Go.Proofs.YtakaocenbempmaaGreatDoor
open Go.RowKit
theorem qStands_any {w:World} {kv lv:Value} {L:List (Int × List UInt8)} {P:Nat→Prop} {key:List UInt8} (hp:PagesIn w kv lv L P) (hL:L.length≤1048576) (hld:∀ p∈L,p.2.length≤1048576) (hk:key.length=32) (page above stated:Int) (n:Nat) (hn:n≤256) :
  Calls Tryz.prog 61 #[.agg #[kv,lv],.int .i64 page,.int .i64 above,.int .i64 stated,.agg (key.map B).toArray,.int .i64 n] w fun e w'=>StandsPost w w' e (standsL L page above stated key n)∧Keeps [] w w':=by
 by_cases h:page < 2∨2+(L.length:Int)≤page∨above≤page
 ·obtain ⟨a,c,a2,c2,rfl,rfl⟩:=hp.forms
  rw [standsL,if_pos h]
  exact qStands_out (by omega) page above stated n h
 ·obtain ⟨i,rfl⟩:∃ i:Nat,page=((i+2:Nat):Int):=⟨(page - 2).toNat,by omega⟩
  exact qStands_in hp hL hld hk i (by omega) above stated (by omega) n hn
def pathCells (ps:List (Nde × Value)):List Value:=ps.flatMap fun p=>nodeC p.1 p.2
theorem pathCells_snoc (ps:List (Nde × Value)) (p:Nde × Value):pathCells (ps++[p])=pathCells ps++nodeC p.1 p.2:=by simp [pathCells]
theorem info_node2:∃ Z:List Value,Z.length=102∧(Tryz.prog.info? 90).map (fun i=>(i.zero,i.size,i.bytes))=some (some (.agg Z.toArray),102,160):=⟨_,nodeC_length nd0_ok _,info_node⟩
theorem wl_appN {ops:Array Oper} {rest:List Oper} {o:Oper} {a:Act} {w w0:World} {Q:Exit→Act→World→Prop} (hgd:o.guard=none) (s x:Operand) (ho:o.op=.call { callee:=.builtin .append,args:=#[s,x],argTypes:=#[99,99] })
  (base:Nat) (v:Value) (n:Nat) (ps:List (Nde × Value)) (hs:a.eval s=v) (hown:w0.ownsRow base 90 102 v n (pathCells ps)) (p:Nde × Value) (hp:p.1.ok) (hp1:∀ v∈nodeC p.1 p.2,v.oneCell'=true) (hx:a.eval x=.slice (some ⟨w0.heap.size,0,none⟩) 1 1) (hw:w=w0.alloc (.cells (nodeC p.1 p.2).toArray 90 (0,0))) (hb:n+1≤16777216) (hbase:base≤w0.heap.size)
  (h:∀ v' w',w'.ownsRow base 90 102 v' (n+1) (pathCells (ps++[p]))→(∀ (F:List Nat) (wa:World),Keeps F wa w0→wa.heap.size≤base→Keeps F wa w')→(∀ k,k < w0.heap.size→v.ownBlock≠some k→w'.heap[k]?=w0.heap[k]?)→w0.heap.size≤w'.heap.size→wpList Tryz.prog ops Q rest (a.put o.dst v') w'):wpList Tryz.prog ops Q (o :: rest) a w:=by
 subst hw
 obtain ⟨Z,hZ,hZi⟩:=info_node2
 obtain ⟨i0,hi0,hz0,hz1,hz2⟩:=info_parts hZi
 have l4:(nodeC p.1 p.2).length=1 * 102:=by rw [nodeC_length hp]
 have l5:(w0.alloc (.cells (nodeC p.1 p.2).toArray 90 (0,0))).heap.size=w0.heap.size+1:=by simp
 have l2:∀ j u,(nodeC p.1 p.2)[j]?=some u→(w0.alloc (.cells (nodeC p.1 p.2).toArray 90 (0,0))).cell? ((⟨w0.heap.size,0,none⟩:Addr).add j)=some u:=World.news_of_block (cs:=(nodeC p.1 p.2).toArray) (t:=90) (fr:=(0,0)) (heap_new_at rfl)
 refine wpList_append_lies _ hgd s x 99 ho base 90 i0 (.agg Z.toArray) 102 160 Tryz.underlying99 hi0 hz0 hz1 hz2 (by simp [Value.cells,hZ]) (by omega) v n (pathCells ps) hs (hown.alloc _) ⟨w0.heap.size,0,none⟩ 1 1 (nodeC p.1 p.2) hx l4 l2 hp1 (by omega) (by simp only [maxLen];omega) (by omega) (by rw [l5];omega) (w0.heap.size+1) l5 ?_
 intro gq cap wn h1 h2 h3 h4
 refine h _ wn ?_ (fun F wa hk hba=>(hk.alloc _).grown h2 (fun k hk=>.inr (Nat.le_trans hba (World.ownsRow.lt hown k hk).1))) (fun k hk hne=>by rw [h2.block k (by simp;omega) (fun e=>hne e.symm)];exact heap_old_at hk) (Nat.le_trans (by simp) h2.size)
 rw [pathCells_snoc]
 exact h1
structure PathIn (w:World) (base:Nat) (v:Value) (ps:List (Nde × Value)):Prop where
 row:w.ownsRow base 90 102 v ps.length (pathCells ps)
 vals:∀ p∈ps,p.1.ok∧∃ a c,p.2=.slice a p.1.val.length c∧OwnB w p.2 p.1.val
theorem own_type {w:World} {base:Nat} {e:TypeId} {size:Nat} {v:Value} {n:Nat} {xs:List Value} (h:w.ownsRow base e size v n xs) {k:Nat} (hk:v.ownBlock=some k):∃ cur,w.heap[k]?=some (.cells cur e (0,0)):=by
 rcases h.2 with ⟨rfl,_⟩ | ⟨g,cap,cur,rfl,_,hh,_⟩
 ·simp [Value.ownBlock] at hk
 ·simp [Value.ownBlock] at hk
  subst hk
  exact ⟨cur,hh⟩
theorem nodes_not_bytes:¬ (90:TypeId)=5:=by decide
theorem PathIn.apart {w:World} {base:Nat} {v:Value} {ps:List (Nde × Value)} (h:PathIn w base v ps) {p:Nde × Value} (hp:p∈ps) {k:Nat} (hk:p.2.ownBlock=some k):v.ownBlock≠some k:=fun e=>by
 obtain ⟨_,a,c,_,ho⟩:=h.vals p hp
 obtain ⟨c1,h1⟩:=own_type ho hk
 obtain ⟨c2,h2⟩:=own_type h.row e
 rw [h1] at h2
 injection h2 with h2
 injection h2 with _ h3 _
 exact nodes_not_bytes h3.symm
def pathL (L:List (Int × List UInt8)) (key:List UInt8):Nat→Int→Int→Int→Nat→Option (List Nde)
 | 0,_,_,_,_=>none
 | f+1,page,above,stated,n =>
  if page=0 then some []
  else match standsL L page above stated key n with
   | none=>none
   | some nd=>if nd.kind=1 then some [nd] else (pathL L key f (dNext nd (bitK key n)) page (dStated nd (bitK key n)) (n+1)).map (nd :: ·)
def PathPost (w0 w:World) (r:Ending):Option (List Nde)→Prop
 | none=>r=.returned (.tuple #[.slice none 0 0,.bool false])
 | some ns=>∃ v ps,r=.returned (.tuple #[v,.bool true])∧ps.map Prod.fst=ns∧PathIn w w0.heap.size v ps
open Go.RowKit
theorem standsOf_cases {stated:Int} {key:List UInt8} {n:Nat} {kind:Int} {l:List UInt8} {nd:Nde} (h:standsOf stated key n (decodeL kind l)=some nd) :
  (∃ k v,nd=leafN k v∧k.length=32∧v.length≤128∧n≤commonK k key)∨∃ lp lc ls rp rc rs,nd=branchN lp lc ls rp rc rs∧branchOk lp lc ls rp rc rs=true∧ls.length=32∧rs.length=32∧n < 256:=by
 cases hd:decodeL kind l with
 | none=>rw [hd] at h;cases h
 | some nd' =>
  rw [hd] at h
  simp only [standsOf] at h
  split at h
  ·cases h
  ·rcases decodeL_cases hd with ⟨k,v,rfl,hk,hv⟩ | ⟨lp,lc,ls,rp,rc,rs,rfl,hb,h1,h2,hsum,_,_⟩
   ·rw [if_pos (show (leafN k v).kind=1 from rfl)] at h
    split at h
    ·cases h
     exact .inl ⟨k,v,rfl,hk,hv,by assumption⟩
    ·cases h
   ·rw [if_neg (show ¬ (branchN lp lc ls rp rc rs).kind=1 by show ¬ (2:Int)=1;decide)] at h
    split at h
    ·cases h
     exact .inr ⟨_,_,_,_,_,_,rfl,hb,h1,h2,by assumption⟩
    ·cases h
theorem standsL_cases {L:List (Int × List UInt8)} {page above stated:Int} {key:List UInt8} {n:Nat} {nd:Nde} (h:standsL L page above stated key n=some nd) :
  (2≤page∧page < 2+(L.length:Int)∧page < above)∧((∃ k v,nd=leafN k v∧k.length=32∧v.length≤128∧n≤commonK k key)∨∃ lp lc ls rp rc rs,nd=branchN lp lc ls rp rc rs∧branchOk lp lc ls rp rc rs=true∧ls.length=32∧rs.length=32∧n < 256):=by
 unfold standsL at h
 split at h
 ·cases h
 ·rename_i hb
  refine ⟨by omega,?_⟩
  split at h
  ·cases h
  ·exact standsOf_cases h
theorem standsL_ok {L:List (Int × List UInt8)} {page above stated:Int} {key:List UInt8} {n:Nat} {nd:Nde} (h:standsL L page above stated key n=some nd):nd.ok∧(nd.kind=1∨nd.kind=2∧n < 256):=by
 rcases (standsL_cases h).2 with ⟨k,v,rfl,hk,_,_⟩ | ⟨lp,lc,ls,rp,rc,rs,rfl,_,h1,h2,hn⟩
 ·exact ⟨⟨rfl,rfl,hk⟩,.inl rfl⟩
 ·exact ⟨⟨h1,h2,rfl⟩,.inr ⟨rfl,hn⟩⟩
set_option maxRecDepth 100000 in
set_option maxHeartbeats 12800000 in
theorem qPath_any {w:World} {kv lv:Value} {L:List (Int × List UInt8)} {P:Nat→Prop} {key:List UInt8} (hp:PagesIn w kv lv L P) (hL:L.length≤1048576) (hld:∀ p∈L,p.2.length≤1048576) (hk:key.length=32) (root:Int) (fuel:Nat) (hf:2+L.length < fuel) :
  Calls Tryz.prog 31 #[.agg #[kv,lv],.int .i64 root,.agg (key.map B).toArray] w fun e w'=>PathPost w w' e (pathL L key fuel root (2+(L.length:Int)) (-1) 0)∧Keeps [] w w':=by
 obtain ⟨PR,hPR⟩:∃ PR,PR=pathL L key fuel root (2+(L.length:Int)) (-1) 0:=⟨_,rfl⟩
 rw [← hPR]
 obtain ⟨Z,hZ,hZi⟩:=info_node2
 obtain ⟨q3,hq3⟩:∃ x,x=w.heap.size:=⟨_,rfl⟩
 obtain ⟨wa,hwa⟩:∃ x,x=w.alloc (.cells #[kv,lv] 32 (0,0)):=⟨_,rfl⟩
 obtain ⟨q5,hq5⟩:∃ x,x=w.heap.size+1:=⟨_,rfl⟩
 have eq5:q5=wa.heap.size:=by rw [hwa,hq5];simp
 obtain ⟨w1,hw1⟩:∃ x,x=wa.alloc (.cells (key.map B).toArray 60 (0,0)):=⟨_,rfl⟩
 have k1:Keeps [] w w1:=by rw [hw1,hwa];exact ((Keeps.refl _ _).alloc _).alloc _
 have b3:w1.heap[q3]?=some (.cells #[kv,lv] 32 (0,0)):=by rw [hw1];exact (heap_old_at (by rw [← eq5];omega)).trans (by rw [hwa];exact heap_new_at hq3)
 have b5:Blk w1 q5 60 key:=by rw [hw1];exact heap_new_at eq5
 obtain ⟨a,c,a2,c2,rfl,rfl⟩:=hp.forms
 obtain ⟨N,hN⟩:∃ N,N=L.length:=⟨_,rfl⟩
 have hnx:=fun (wx:World)=>qNext_any (w:=wx) (a:=a) (a2:=a2) (n:=L.length) (c:=c) (n2:=L.length) (c2:=c2) (by omega)
 obtain ⟨M,hM⟩:∃ M:Nat,M=2+L.length:=⟨_,rfl⟩
 rw [← hM] at hnx
 have hst:=fun (wx:World) (h:Keeps [] w wx) (page above stated:Int) (n:Nat) (hn:n≤256)=>qStands_any (hp.keeps h (by simp)) hL hld hk page above stated n hn
 have hbit:=fun (wx:World) (i:Nat) (hi:i < 256)=>r3Bit_any (w:=wx) hk i hi
 rw [show 2+(L.length:Int)=(M:Int) by omega] at hPR
 rw [← hM] at hf
 rw [← hN] at hnx hst b3 hwa ⊢
 have HST:=Lib.hid hst
 have HBIT:=Lib.hid hbit
 have HNX:=Lib.hid hnx
 have HPR:=Lib.hid hPR
 have HZ:=Lib.hid hZ
 have HZI:=Lib.hid hZi
 have HQ3:=Lib.hid hq3
 have HWA:=Lib.hid hwa
 have HQ5:=Lib.hid hq5
 have HW1:=Lib.hid hw1
 have HK1:=Lib.hid k1
 have HB3:=Lib.hid b3
 have HB5:=Lib.hid b5
 have HR3:=Lib.hid (pages_cells b3).2.2
 have HS3:=Lib.hid (show (Tryz.prog.info? 32).map (·.size)=some ([Value.slice a N c,.slice a2 N c2]:List Value).length from size_rpages)
 have HSK:=Lib.hid (size_key_of hk)
 have HMF:=Lib.hid (And.intro hM hf)
 clear hst hbit hnx hPR hZ hZi hq3 hwa hq5 eq5 hw1 k1 b3 b5 hM hf hp hL hld hk hN
 go_enter Tryz.func31,Tryz.ntmps31
 go_upto_region 1 with fail
 rw [← HWA.out,← HW1.out,← HQ5.out,← HQ3.out]
 go_upto_region 4 with (first | (refine wpList_load_mid rfl 32 (.tmp 3) rfl q3 0 (by rfl) [.slice a N c,.slice a2 N c2] _ HR3.out Tryz.underlying32 rfl HS3.out ?_;try simp only [zA,zB,zC,zD,zE,zF,zG,zH]) | (go_at_call 8;refine (HNX.out _).mono ?_;rintro e w2 ⟨rfl,hk2⟩))
 have HK2:=Lib.hid hk2
 clear hk2 HR3
 go_wp2_with fail
 go_loopw [8,9,10,11,12] (fun v pgv abv stv nv wr=>∃ (ps:List (Nde × Value)) (page above stated:Int) (n f:Nat),pgv=.int .i64 page∧abv=.int .i64 above∧stv=.int .i64 stated∧nv=.int .i64 n∧n≤256∧ps.length≤n∧above < (f:Int)∧0≤above∧PathIn wr w2.heap.size v ps∧PR=(pathL L key f page above stated n).map (ps.map Prod.fst++·)∧Keeps [] w2 wr) (fun _ _ abv _ _ _=>(intOf abv).toNat)
 case atStart =>
  refine ⟨[],root,M,-1,0,fuel,rfl,rfl,rfl,rfl,by omega,by simp,by have:=HMF.out.2;omega,by omega,⟨World.ownsRow_nil _ _ _ _,fun p hp=>by simp at hp⟩,?_,Keeps.refl _ _⟩
  rw [HPR.out]
  simp
 case round =>
  obtain ⟨ps,page,above,stated,n,f,rfl,rfl,rfl,rfl,hn,hpl,haf,ha0,hpath,hpr,hkr⟩:=hrel
  obtain ⟨f',rfl⟩:∃ f',f=f'+1:=⟨f - 1,by omega⟩
  have HPATH:=Lib.hid hpath
  have HKR:=Lib.hid hkr
  have HPV:=Lib.hid hpr
  have HNP:=Lib.hid (And.intro hn (And.intro hpl (And.intro haf ha0)))
  obtain ⟨a1,c1,rfl⟩:=own_form hpath.row
  have hw2:w.heap.size≤w2.heap.size:=(HK1.out.trans (G:=[]) HK2.out (by simp)).size
  clear hpath hkr hpr haf ha0
  by_cases hp0:page=0
  ·subst hp0
   have HX:=Lib.hid (show PR=some (ps.map Prod.fst) by rw [HPV.out,pathL,if_pos rfl];simp)
   clear hn hpl
   go_wp2_with fail
   go_ret2
   refine ⟨?_,(HK1.out.trans (G:=[]) HK2.out (by simp)).trans (G:=[]) HKR.out (by simp)⟩
   rw [HX.out]
   exact ⟨_,ps,rfl,rfl,⟨ownsRow_down HPATH.out.row hw2,HPATH.out.vals⟩⟩
  ·have hpn:(page != 0)=true:=by simpa using hp0
   obtain ⟨R,hR⟩:∃ R,R=standsL L page above stated key n:=⟨_,rfl⟩
   have hkw:Keeps [] w wr:=(HK1.out.trans (G:=[]) HK2.out (by simp)).trans (G:=[]) HKR.out (by simp)
   have hst:=HST.out wr hkw page above stated n hn
   rw [← hR] at hst
   have hk12:Keeps [] w1 wr:=HK2.out.trans (G:=[]) HKR.out (by simp)
   have HSTA:=Lib.hid hst
   have HR3:=Lib.hid (pages_cells ((hk12.block q3 (lt_of_heap HB3.out) (by simp)).trans HB3.out)).2.2
   have HR5:=Lib.hid (rangeAt_all (HB5.out.keeps hk12 (by simp)))
   have HK12:=Lib.hid hk12
   have HKW:=Lib.hid hkw
   have HR:=Lib.hid hR
   clear hst hkw hk12 hR
   cases R with
   | none =>
    have HX:=Lib.hid (show PR=none by rw [HPV.out,pathL,if_neg hp0,← HR.out];rfl)
    clear hp0 hn hpl
    go_upto_region 9 with (first | (refine wpList_load_mid rfl 32 (.tmp 3) rfl q3 0 (by rfl) [.slice a N c,.slice a2 N c2] _ HR3.out Tryz.underlying32 rfl HS3.out ?_;try simp only [zA,zB,zC,zD,zE,zF,zG,zH]) | (refine wpList_load_mid rfl 60 (.tmp 5) rfl q5 0 (by rfl) (key.map B) _ HR5.out Tryz.underlying60 rfl HSK.out ?_;try simp only [zA,zB,zC,zD,zE,zF,zG,zH]) | (go_at_call 61;refine HSTA.out.mono ?_;rintro e w4 ⟨⟨X,rfl,hX,hX1⟩,hk4⟩) | (refine wl_alloc rfl 90 rfl ?_;refine ⟨_,_,run_alloc _ HZI.out,?_⟩;(try simp only [Value.cells]);try simp only [zA,zB,zC,zD,zE,zF,zG,zH]) | (refine wl_store rfl 90 (.tmp 13) (.tmp 31) rfl ?_;refine ⟨_,run_store_node (heap_new_at rfl) HZ.out hX hX1,?_⟩;try simp only [zA,zB,zC,zD,zE,zF,zG,zH]))
    go_wp2_with fail
    go_ret2
    refine ⟨?_,((HKW.out.trans (G:=[]) hk4 (by simp)).alloc _).setCells (.inr (HKW.out.trans (G:=[]) hk4 (by simp)).size) _ _⟩
    rw [HX.out]
    rfl
   | some nd =>
    obtain ⟨hok,hkind⟩:=standsL_ok HR.out.symm
    have hcs:=(standsL_cases HR.out.symm).1
    have HOK:=Lib.hid hok
    have HCS:=Lib.hid hcs
    have HKIND:=Lib.hid hkind
    have HP0:=Lib.hid hp0
    clear hok hcs hkind hp0
    go_upto_region 9 with (first | (refine wpList_load_mid rfl 32 (.tmp 3) rfl q3 0 (by rfl) [.slice a N c,.slice a2 N c2] _ HR3.out Tryz.underlying32 rfl HS3.out ?_;try simp only [zA,zB,zC,zD,zE,zF,zG,zH]) | (refine wpList_load_mid rfl 60 (.tmp 5) rfl q5 0 (by rfl) (key.map B) _ HR5.out Tryz.underlying60 rfl HSK.out ?_;try simp only [zA,zB,zC,zD,zE,zF,zG,zH]) | (go_at_call 61;refine HSTA.out.mono ?_;rintro e w4 ⟨⟨na,nc,rfl,hO4,hf4⟩,hk4⟩) | (refine wl_alloc rfl 90 rfl ?_;refine ⟨_,_,run_alloc _ HZI.out,?_⟩;(try simp only [Value.cells]);try simp only [zA,zB,zC,zD,zE,zF,zG,zH]) | (refine wl_store rfl 90 (.tmp 13) (.tmp 31) rfl ?_;refine ⟨_,run_store_node (heap_new_at rfl) HZ.out (nodeC_length HOK.out _) nodeC_ones,?_⟩;try simp only [zA,zB,zC,zD,zE,zF,zG,zH]))
    obtain ⟨vv,hvv⟩:∃ vv,vv=Value.slice na nd.val.length nc:=⟨_,rfl⟩
    obtain ⟨g13,hg13⟩:∃ x,x=w4.heap.size:=⟨_,rfl⟩
    obtain ⟨w5,hw5⟩:∃ x,x=(w4.alloc (.cells Z.toArray 90 (0,0))).setCells w4.heap.size 0 (nodeC nd (.slice na nd.val.length nc)):=⟨_,rfl⟩
    have k45:Keeps [] w4 w5:=by rw [hw5];exact ((Keeps.refl _ _).alloc _).setCells (.inr (Nat.le_refl _)) _ _
    have k5:Keeps [] wr w5:=hk4.trans (G:=[]) k45 (by simp)
    have b13:w5.heap[g13]?=some (.cells (nodeC nd (.slice na nd.val.length nc)).toArray 90 (0,0)):=by rw [hw5,hg13];exact store_all (heap_new_at rfl) (by rw [HZ.out,nodeC_length HOK.out])
    rw [← hw5,← hg13]
    have hO5:OwnB w5 (.slice na nd.val.length nc) nd.val:=ownsRow_keep hO4 (fun k hk=>k45.block k (World.ownsRow.lt hO4 k hk).2 (by simp))
    have hrow5:w5.ownsRow w2.heap.size 90 102 (.slice a1 ps.length c1) ps.length (pathCells ps):=ownsRow_keep HPATH.out.row (fun k hk=>k5.block k (World.ownsRow.lt HPATH.out.row k hk).2 (by simp))
    have hvals5:∀ p∈ps,p.1.ok∧∃ a c,p.2=.slice a p.1.val.length c∧OwnB w5 p.2 p.1.val:=fun p hp=>by
     obtain ⟨h1,a,c,h2,h3⟩:=HPATH.out.vals p hp
     exact ⟨h1,a,c,h2,ownsRow_keep h3 (fun k hk=>k5.block k (World.ownsRow.lt h3 k hk).2 (by simp))⟩
    have hg13v:(Value.slice a1 ps.length c1).ownBlock≠some g13:=fun e=>by
     have h1:=(World.ownsRow.lt HPATH.out.row g13 e).2
     have h2:=hk4.size
     omega
    have hb5:w2.heap.size≤w5.heap.size:=Nat.le_trans HKR.out.size k5.size
    have hps:ps.length+1≤16777216:=by omega
    have HROW5:=Lib.hid (show PathIn w5 w2.heap.size (.slice a1 ps.length c1) ps from ⟨hrow5,hvals5⟩)
    have HO5:=Lib.hid hO5
    have HB13:=Lib.hid b13
    have HB13L:=Lib.hid (lt_of_heap b13)
    have HR13:=Lib.hid (rangeAt_all b13)
    have HK5:=Lib.hid (HKR.out.trans (G:=[]) k5 (by simp))
    have HS13:=Lib.hid (size_node_of HOK.out (.slice na nd.val.length nc))
    have HG13:=Lib.hid hg13v
    have HLN:=Lib.hid (nodeC_length HOK.out (.slice na nd.val.length nc))
    have HRW:=Lib.hid hrow5
    clear hvv hg13 hw5 k45 k5 b13 hO4 hf4 hk4 hO5 hrow5 hvals5 hg13v HSTA HR3 HR5 HPATH
    go_upto_region 12 with (first | (refine wpList_load_mid rfl 90 (.tmp 13) rfl g13 0 (by rfl) (nodeC nd (.slice na nd.val.length nc)) _ HR13.out Tryz.underlying90 rfl HS13.out ?_;try simp only [zA,zB,zC,zD,zE,zF,zG,zH]) | (refine wl_buildSlice rfl 99 1 #[(0,.tmp 36)] #[(0,.agg (nodeC nd (.slice na nd.val.length nc)).toArray)] rfl (by simp [Act.eval]) ?_;refine ⟨_,_,run_buildSlice_one _ Tryz.underlying99 HZI.out (cs:=(nodeC nd (.slice na nd.val.length nc)).toArray) (by simpa using HLN.out) (by omega) (by omega),?_⟩;try simp only [zA,zB,zC,zD,zE,zF,zG,zH]) | (refine wl_appN (w0:=w5) rfl (.tmp 35) (.tmp 37) rfl w2.heap.size (.slice a1 ps.length c1) ps.length ps (by rfl) HRW.out (nd,.slice na nd.val.length nc) HOK.out nodeC_ones (by rfl) (by rfl) hps hb5 ?_;intro v6 w6 ho6 hk6 hb6 hs6;try simp only [zA,zB,zC,zD,zE,zF,zG,zH]))
    obtain ⟨a6,c6,rfl⟩:=own_form ho6
    have hvals6:∀ p∈ps++[(nd,Value.slice na nd.val.length nc)],p.1.ok∧∃ a c,p.2=.slice a p.1.val.length c∧OwnB w6 p.2 p.1.val:=fun p hp=>by
     rcases List.mem_append.1 hp with hp | hp
     ·obtain ⟨h1,a,c,h2,h3⟩:=HROW5.out.vals p hp
      exact ⟨h1,a,c,h2,ownsRow_keep h3 (fun k hk=>hb6 k (World.ownsRow.lt h3 k hk).2 (HROW5.out.apart hp hk))⟩
     ·simp at hp
      subst hp
      refine ⟨HOK.out,na,nc,rfl,ownsRow_keep HO5.out (fun k hk=>hb6 k (World.ownsRow.lt HO5.out k hk).2 (fun e=>?_))⟩
      obtain ⟨c1,h1⟩:=own_type HO5.out hk
      obtain ⟨c2,h2⟩:=own_type HRW.out e
      rw [h1] at h2
      injection h2 with h2
      injection h2 with _ h3 _
      exact nodes_not_bytes h3.symm
    have hpath6:PathIn w6 w2.heap.size (.slice a6 (ps.length+1) c6) (ps++[(nd,Value.slice na nd.val.length nc)]):=⟨by rw [List.length_append];exact ho6,hvals6⟩
    have hk26:=hk6 [] w2 HK5.out (Nat.le_refl _)
    have hb136:w6.heap[g13]?=some (.cells (nodeC nd (.slice na nd.val.length nc)).toArray 90 (0,0)):=(hb6 g13 (lt_of_heap HB13.out) HG13.out).trans HB13.out
    have hparts:=node_parts HOK.out hb136
    have ck:=hparts.1.1
    have HPARTS:=Lib.hid hparts
    have HP6:=Lib.hid hpath6
    have HK26:=Lib.hid hk26
    have HS56:=Lib.hid hs6
    clear ho6 hk6 hb6 hs6 hvals6 hpath6 hk26 hb136 hparts HROW5 HO5 HB13 HR13 HRW HLN HS13 HG13
    by_cases hkd:nd.kind=1
    ·have ck':w6.cell? ⟨g13,0,none⟩=some (.int .i64 1):=by rw [← hkd];exact ck
     have HX:=Lib.hid (show PR=some (ps.map Prod.fst++[nd]) by rw [HPV.out,pathL,if_neg HP0.out,← HR.out];simp [hkd])
     clear ck hn hpl hps hkd
     go_wp2_with fail
     go_ret2
     refine ⟨?_,(HK1.out.trans (G:=[]) HK2.out (by simp)).trans (G:=[]) HK26.out (by simp)⟩
     rw [HX.out]
     exact ⟨.slice a6 (ps.length+1) c6,ps++[(nd,Value.slice na nd.val.length nc)],rfl,by simp,⟨ownsRow_down HP6.out.row hw2,HP6.out.vals⟩⟩
    ·have hk2':nd.kind=2∧n < 256:=by rcases HKIND.out with h | h;exact absurd h hkd;exact h
     have ck':w6.cell? ⟨g13,0,none⟩=some (.int .i64 2):=by rw [← hk2'.1];exact ck
     obtain ⟨bt,hbt⟩:∃ b,b=bitK key n:=⟨_,rfl⟩
     have hbit:=fun (wx:World)=>HBIT.out wx n hk2'.2
     rw [← hbt] at hbit
     have hPn:PR=(pathL L key f' (dNext nd bt) page (dStated nd bt) (n+1)).map ((ps++[(nd,Value.slice na nd.val.length nc)]).map Prod.fst++·):=by
      rw [HPV.out,pathL,if_neg HP0.out,← HR.out]
      simp only [if_neg hkd,hbt,Option.map_map]
      congr 1
      funext x
      simp
     have hb2:bt < 2:=by rw [hbt];exact bitK_lt _ _
     have HBI:=Lib.hid hbit
     have HPN:=Lib.hid hPn
     have HN256:=Lib.hid hk2'.2
     have HR56:=Lib.hid (rangeAt_all ((HB5.out.keeps HK2.out (by simp)).keeps HK26.out (by simp)))
     clear ck hkd hk2' hbt hbit hPn hn hpl hps
     go_upto_region 16 with (first | (refine wpList_load_mid rfl 60 (.tmp 5) rfl q5 0 (by rfl) (key.map B) _ HR56.out Tryz.underlying60 rfl HSK.out ?_;try simp only [zA,zB,zC,zD,zE,zF,zG,zH]) | (go_at_call 36;refine (HBI.out _).mono ?_;rintro e w7 ⟨rfl,hk7⟩))
     have hb7:=(hk7.block g13 (Nat.lt_of_lt_of_le HB13L.out HS56.out) (by simp))
     have HK27:=Lib.hid (HK26.out.trans (G:=[]) hk7 (by simp))
     have hpath7:PathIn w7 w2.heap.size (.slice a6 (ps.length+1) c6) (ps++[(nd,Value.slice na nd.val.length nc)]):=⟨ownsRow_keep HP6.out.row (fun k hk=>hk7.block k (World.ownsRow.lt HP6.out.row k hk).2 (by simp)),fun p hp=>by
      obtain ⟨h1,a,c,h2,h3⟩:=HP6.out.vals p hp
      exact ⟨h1,a,c,h2,ownsRow_keep h3 (fun k hk=>hk7.block k (World.ownsRow.lt h3 k hk).2 (by simp))⟩⟩
     have q1:w7.cell? ⟨g13,1,none⟩=some (.int .i64 nd.left):=(World.cell?_of_block (a:=⟨g13,1,none⟩) hb7).trans HPARTS.out.1.2.1
     have q2:w7.cell? ⟨g13,2,none⟩=some (.int .i64 nd.right):=(World.cell?_of_block (a:=⟨g13,2,none⟩) hb7).trans HPARTS.out.1.2.2.1
     have q3':w7.cell? ⟨g13,3,none⟩=some (.int .i64 nd.lc):=(World.cell?_of_block (a:=⟨g13,3,none⟩) hb7).trans HPARTS.out.1.2.2.2.1
     have q4:w7.cell? ⟨g13,4,none⟩=some (.int .i64 nd.rc):=(World.cell?_of_block (a:=⟨g13,4,none⟩) hb7).trans HPARTS.out.1.2.2.2.2.1
     have HP7:=Lib.hid hpath7
     clear hb7 hk7 hpath7 ck'
     have hn256:n < 256:=HN256.out
     by_cases hz:bt=0
     ·have hz0:(bt:Int)=0:=by omega
      have hd:dNext nd bt=nd.left∧dStated nd bt=nd.lc:=by unfold dNext dStated;rw [if_neg (by omega),if_neg (by omega)];exact ⟨rfl,rfl⟩
      have HD:=Lib.hid hd
      clear hd hz
      go_wp2_with fail
      go_roundw
      case rel =>
       refine ⟨ps++[(nd,Value.slice na nd.val.length nc)],nd.left,page,nd.lc,n+1,f',rfl,rfl,rfl,by go_num,by have:=HN256.out;omega,by have:=HNP.out.2.1;simp;omega,by have:=HCS.out;have:=HNP.out;omega,by have:=HCS.out;omega,?_,?_,HK27.out⟩
       ·exact ⟨HP7.out.row,HP7.out.vals⟩
       ·rw [HPN.out,HD.out.1,HD.out.2]
      case measure=>have:=HCS.out;have:=HNP.out;simp [intOf];omega
     ·have hz0:¬ (bt:Int)=0:=by omega
      have hd:dNext nd bt=nd.right∧dStated nd bt=nd.rc:=by unfold dNext dStated;rw [if_pos (by omega),if_pos (by omega)];exact ⟨rfl,rfl⟩
      have HD:=Lib.hid hd
      clear hd hz
      go_wp2_with fail
      go_roundw
      case rel =>
       refine ⟨ps++[(nd,Value.slice na nd.val.length nc)],nd.right,page,nd.rc,n+1,f',rfl,rfl,rfl,by go_num,by have:=HN256.out;omega,by have:=HNP.out.2.1;simp;omega,by have:=HCS.out;have:=HNP.out;omega,by have:=HCS.out;omega,?_,?_,HK27.out⟩
       ·exact ⟨HP7.out.row,HP7.out.vals⟩
       ·rw [HPN.out,HD.out.1,HD.out.2]
      case measure=>have:=HCS.out;have:=HNP.out;simp [intOf];omega
open Go.RowKit
theorem set_parts {l:List (List UInt8)} {i:Nat} (hi:i < l.length) (x:List UInt8):sumCells l=sumCells (l.take i)++l[i].map B++sumCells (l.drop (i+1))∧sumCells (l.set i x)=sumCells (l.take i)++x.map B++sumCells (l.drop (i+1)):=by
 constructor
 ·have e:sumCells (l.drop i)=l[i].map B++sumCells (l.drop (i+1)):=by rw [List.drop_eq_getElem_cons hi];simp only [sumCells,List.flatMap_cons]
  conv=>lhs;rw [← List.take_append_drop i l,sumCells_append,e]
  simp
 ·rw [List.set_eq_take_append_cons_drop,if_pos hi,sumCells_append]
  simp [sumCells]
theorem WayAt.set {w:World} {g:Nat} {n:Int} {S E:List (List UInt8)} (h:WayAt w g n S E) {i:Nat} (hi:i < 256) {x:List UInt8} (hx:x.length=32):WayAt (w.setCells g (1+i * 32) (x.map B)) g n (S.set i x) E:=by
 have hil:i < S.length:=by rw [h.lenS];exact hi
 obtain ⟨e1,e2⟩:=set_parts hil x
 have ht:(sumCells (S.take i)).length=i * 32:=by rw [sumCells_length (fun s hs=>h.s32 s (List.mem_of_mem_take hs)),List.length_take];omega
 have hm:(S[i].map B).length=32:=by rw [List.length_map];exact h.s32 _ (List.getElem_mem hil)
 refine ⟨?_,by rw [List.length_set];exact h.lenS,h.lenE,fun s hs=>?_,h.e32⟩
 ·rw [heap_setCells_same g 95 _ _ w _ h.row (by rw [List.length_map,hx,List.length_cons,List.length_append,sumCells_length h.s32,sumCells_length h.e32,h.lenS,h.lenE];omega)]
  congr 3
  rw [e1,e2,List.length_map,hx]
  have p:(Value.int .i64 n :: (sumCells (S.take i)++S[i].map B++sumCells (S.drop (i+1))++sumCells E))=(Value.int .i64 n :: sumCells (S.take i))++(S[i].map B++(sumCells (S.drop (i+1))++sumCells E)):=by simp
  have pl:(Value.int .i64 n :: sumCells (S.take i)).length=1+i * 32:=by rw [List.length_cons,ht];omega
  rw [p,List.take_left' pl,← List.drop_drop,List.drop_left' pl,List.drop_left' hm]
  simp
 ·rcases List.mem_or_eq_of_mem_set hs with h1 | rfl
  ·exact h.s32 s h1
  ·exact hx
theorem downL_zero (kept:List Ent) (mark:Int) (key:List UInt8) (f:Nat) (st:Int) (dp:Nat) (S:List (List UInt8)):downL kept mark key (f+1) 0 st dp S=(S,.none):=by rw [downL,if_pos rfl]
theorem downL_err {kept:List Ent} {mark:Int} {key:List UInt8} {f:Nat} {page st:Int} {dp:Nat} {S:List (List UInt8)} {e:Ent} (hp:¬ page=0) (he:kept[(page - mark).toNat]?=some e) (hn:nodeAtL e dp st key=none):downL kept mark key (f+1) page st dp S=(S,.err):=by rw [downL,if_neg hp];simp only [he,hn]
theorem downL_leaf {kept:List Ent} {mark:Int} {key:List UInt8} {f:Nat} {page st:Int} {dp:Nat} {S:List (List UInt8)} {e:Ent} {nd:Nde} (hp:¬ page=0) (he:kept[(page - mark).toNat]?=some e) (hn:nodeAtL e dp st key=some nd) (hk:nd.kind=1):downL kept mark key (f+1) page st dp S=(S,.leaf nd):=by rw [downL,if_neg hp];simp only [he,hn,hk,if_true]
theorem downL_bad {kept:List Ent} {mark:Int} {key:List UInt8} {f:Nat} {page st:Int} {dp:Nat} {S:List (List UInt8)} {e:Ent} {nd:Nde} (hp:¬ page=0) (he:kept[(page - mark).toNat]?=some e) (hn:nodeAtL e dp st key=some nd) (hk:¬ nd.kind=1) (hg:page≤dNext nd (bitK key dp)):downL kept mark key (f+1) page st dp S=(dSums S nd dp (bitK key dp),.err):=by rw [downL,if_neg hp];simp only [he,hn,hk,if_false,hg,if_true]
theorem downL_next {kept:List Ent} {mark:Int} {key:List UInt8} {f:Nat} {page st:Int} {dp:Nat} {S:List (List UInt8)} {e:Ent} {nd:Nde} (hp:¬ page=0) (he:kept[(page - mark).toNat]?=some e) (hn:nodeAtL e dp st key=some nd) (hk:¬ nd.kind=1) (hg:¬ page≤dNext nd (bitK key dp)):downL kept mark key (f+1) page st dp S=downL kept mark key f (dNext nd (bitK key dp)) (dStated nd (bitK key dp)) (dp+1) (dSums S nd dp (bitK key dp)):=by rw [downL,if_neg hp];simp only [he,hn,hk,if_false,hg]
def DownPost (w w':World) (R:DR) (r:Ending):Prop:=match R with
 | .err=>r=.returned (.tuple #[.pointer none,.int .i64 4])
 | .none=>r=.returned (.tuple #[.pointer none,.int .i64 0])
 | .leaf nd=>∃ q a c,r=.returned (.tuple #[.pointer (some ⟨q,0,none⟩),.int .i64 0])∧w.heap.size≤q∧w'.heap[q]?=some (.cells (nodeC nd (.slice a nd.val.length c)).toArray 90 (0,0))∧OwnB w' (.slice a nd.val.length c) nd.val∧(∀ k,(Value.slice a nd.val.length c).ownBlock=some k→w.heap.size≤k∧k≠q)∧nd.ok∧nd.kind=1∧nd.val.length≤128
theorem nodeAtL_ok {e:Ent} {depth:Nat} {stated:Int} {key:List UInt8} {nd:Nde} (hn:nodeAtL e depth stated key=some nd):nd.ok:=by
 unfold nodeAtL at hn
 split at hn
 ·cases hn
 ·rename_i nd' hdec
  have h:=decodeL_ok hdec
  (repeat' split at hn) <;> first | (cases hn;done) | (cases hn;exact h)
set_option maxRecDepth 100000 in
set_option maxHeartbeats 12800000 in
theorem down_any {w:World} {s b bf c bm qw fuel:Nat} {S:St} {sv:Value} {d:D} {F:List Nat} {n:Int} {Ss S' E:List (List UInt8)} {R:DR} {key:List UInt8} (h:StoreIn w s b S bf c bm sv) (hm2:S.f.sup.mark=2) (hd:DiskAt w b d F) (hl:liveE d S.f=0) (hlo:∀ e∈S.C.kept,e.load.length≤246)
  (hway:WayAt w qw n Ss E) (hqw:qw ∉ stF s bf c bm sv S) (hF:∀ k∈F,k≠c∧k≠qw) (hkl:key.length=32) (root:Int) (hroot:root=0∨S.f.sup.mark≤root∧root < S.f.sup.mark+S.C.kept.length) (hf:root < fuel)
  (hR:downL S.C.kept S.f.sup.mark key fuel root (-1) 0 Ss=(S',R)) :
  Calls Tryz.prog 26 #[.pointer (some ⟨qw,0,none⟩),.pointer (some ⟨s,0,none⟩),.int .i64 root,.agg (key.map B).toArray] w fun r w'=>(∃ x,StoreIn w' s b (S.hit x) bf c bm sv)∧WayAt w' qw n S' E∧Keeps [c,qw] w w'∧DownPost w w' R r:=by
 obtain ⟨Z,hZ,hZi⟩:∃ Z:List Value,Z.length=102∧(Tryz.prog.info? 90).map (fun i=>(i.zero,i.size,i.bytes))=some (some (.agg Z.toArray),102,160):=⟨_,nodeC_length nd0_ok _,info_node⟩
 obtain ⟨X,hX,hXi⟩:∃ X:Array Value,X=Array.replicate 32 (.int .u8 0)∧(Tryz.prog.info? 88).map (fun i=>(i.zero,i.size,i.bytes))=some (some (.agg X),32,32):=⟨_,rfl,info_digest⟩
 have hmark:=h.mark
 have HM2:=Lib.hid hm2
 clear hm2
 obtain ⟨q7,hq7⟩:∃ q,q=w.heap.size:=⟨_,rfl⟩
 obtain ⟨w1,hw1⟩:∃ x,x=w.alloc (.cells (key.map B).toArray 60 (0,0)):=⟨_,rfl⟩
 have k1:Keeps [] w w1:=by rw [hw1];exact (Keeps.refl _ _).alloc _
 have b7:Blk w1 q7 60 key:=by rw [hw1];exact heap_new_at hq7
 have hcl:=h.c_mem
 have hqwl:=lt_of_heap hway.row
 have HS1:=Lib.hid (show StoreIn w1 s b (S.hit S.C.hits) bf c bm sv from h.keeps k1 (by simp))
 have HD1:=Lib.hid (hd.keeps k1 (by simp))
 have HWAY:=Lib.hid (hway.keeps k1 (by simp))
 have HLIVE:=Lib.hid hl
 have HLO:=Lib.hid hlo
 have HQW:=Lib.hid hqw
 have HFF:=Lib.hid hF
 have HKL:=Lib.hid hkl
 have HSK:=Lib.hid (size_key_of hkl)
 have HR:=Lib.hid hR
 have HROOT:=Lib.hid (And.intro hroot hf)
 have HMARK:=Lib.hid hmark
 have HZ:=Lib.hid hZ
 have HZI:=Lib.hid hZi
 have HX:=Lib.hid hX
 have HXI:=Lib.hid hXi
 have HW1:=Lib.hid hw1
 have HQ7:=Lib.hid hq7
 have HB7:=Lib.hid b7
 have HK1:=Lib.hid k1
 have HNE:=Lib.hid (show c < q7∧qw < q7 by omega)
 have HCQ:=Lib.hid (show c≠qw from fun e=>hqw (by subst e;exact mem_stF.2 (.inr (.inr (.inl (by simp [caF]))))))
 clear hZ hZi hX hXi hmark hq7 hw1 k1 b7 hcl hqwl h hd hway hl hlo hqw hF hkl hR hroot hf
 go_enter Tryz.func26,Tryz.ntmps26
 go_wp2_with fail
 rw [← HW1.out,← HQ7.out]
 go_loopw [10,11,12] (fun pg st dpv wr=>∃ (f:Nat) (page stated:Int) (dp:Nat) (Sx:List (List UInt8)) (x:Int),pg=.int .i64 page∧st=.int .i64 stated∧dpv=.int .i64 dp∧page < f∧(page=0∨S.f.sup.mark≤page∧page < S.f.sup.mark+S.C.kept.length)∧dp≤256∧downL S.C.kept S.f.sup.mark key f page stated dp Sx=(S',R)∧StoreIn wr s b (S.hit x) bf c bm sv∧WayAt wr qw n Sx E∧Keeps [c,qw] w1 wr) (fun pg _ _ _=>(intOf pg).toNat)
 case atStart=>exact ⟨fuel,root,-1,0,Ss,S.C.hits,rfl,rfl,rfl,HROOT.out.2,HROOT.out.1,by omega,HR.out,HS1.out,HWAY.out,Keeps.refl _ _⟩
 case round =>
  obtain ⟨f,page,stated,dp,Sx,x,rfl,rfl,rfl,hpf,hpg,hdp,hdown,hst,hwy,hkr⟩:=hrel
  have h7:=HB7.out.keeps hkr (by simp;have:=HNE.out;omega)
  have hk0r:Keeps [c,qw] w wr:=(HK1.out.mono (G:=[c,qw]) (by simp)).trans (G:=[c,qw]) hkr (fun k hk=>.inl hk)
  obtain ⟨f',hf'⟩:∃ f',f=f'+1:=⟨f - 1,by have:=HMARK.out;omega⟩
  subst hf'
  by_cases hp:page=0
  ·subst hp
   rw [downL_zero] at hdown
   injection hdown with e1 e2
   subst e1
   have HE2:=Lib.hid e2
   have HS:=Lib.hid hst
   have HWY:=Lib.hid hwy
   have HKR:=Lib.hid hk0r
   clear hst hwy hkr hk0r h7 e2
   go_wp2_with fail
   go_ret2
   exact ⟨⟨x,HS.out⟩,HWY.out,HKR.out,by rw [← HE2.out];rfl⟩
  ·have hrange:=hpg.resolve_left hp
   obtain ⟨e,he⟩:∃ e,S.C.kept[(page - S.f.sup.mark).toNat]?=some e:=⟨_,List.getElem?_eq_getElem (by omega)⟩
   have hekey:e.key=page:=by
    have:=hst.keys _ e he
    rw [this]
    show S.f.sup.mark+(((page - S.f.sup.mark).toNat:Nat):Int)=page
    omega
   have hem:e∈S.C.kept:=List.mem_of_getElem? he
   have hdr:=HD1.out.keeps hkr (by intro k hk hm;have:=HFF.out k hk;simp at hm;omega)
   cases hnode:nodeAtL e dp stated key with
   | none =>
    rw [downL_err hp he hnode] at hdown
    injection hdown with e1 e2
    subst e1
    have hcall:=nodeAt_err hst hdr HLIVE.out hem (HLO.out e hem) HKL.out dp stated hnode
    obtain ⟨Zn,hZn⟩:∃ Z,Z=nodeC nd0 (.slice none 0 0):=⟨_,rfl⟩
    rw [hekey,← hZn] at hcall
    have HZN:=Lib.hid (show Zn.length=102∧(∀ v∈Zn,v.oneCell'=true) by rw [hZn];exact ⟨nodeC_length nd0_ok _,nodeC_ones⟩)
    have HCALL:=Lib.hid hcall
    have HE2:=Lib.hid e2
    have HWY:=Lib.hid hwy
    have HKR:=Lib.hid hk0r
    have H7:=Lib.hid h7
    clear hst hwy hkr hk0r h7 e2 hcall hZn hdr hem he hekey hnode hpg hrange
    go_upto_region 6 with (first | (refine wpList_load_mid rfl 60 (.tmp 7) rfl q7 0 (by rfl) (key.map B) _ (rangeAt_all H7.out) Tryz.underlying60 rfl HSK.out ?_;try simp only [zA,zB,zC,zD,zE,zF,zG,zH]) | (go_at_call 52;refine HCALL.out.mono ?_;rintro r w3 ⟨rfl,hs3,hk3⟩) | (refine wl_alloc rfl 90 rfl ?_;refine ⟨_,_,run_alloc _ HZI.out,?_⟩;(try simp only [Value.cells]);try simp only [zA,zB,zC,zD,zE,zF,zG,zH]) | (refine wl_store rfl 90 (.tmp 13) (.tmp 31) rfl ?_;refine ⟨_,run_store_node (heap_new_at rfl) HZ.out HZN.out.1 HZN.out.2,?_⟩;try simp only [zA,zB,zC,zD,zE,zF,zG,zH]))
    obtain ⟨w4,hw4⟩:∃ x,x=(w3.alloc (.cells Z.toArray 90 (0,0))).setCells w3.heap.size 0 Zn:=⟨_,rfl⟩
    have k34:Keeps [] w3 w4:=by rw [hw4];exact ((Keeps.refl _ _).alloc _).setCells (.inr (Nat.le_refl _)) _ _
    rw [← hw4]
    have HS4:=Lib.hid (hs3.keeps k34 (by simp))
    have HW4:=Lib.hid ((HWY.out.keeps hk3 (by simp;exact Ne.symm HCQ.out)).keeps k34 (by simp))
    have HK4:=Lib.hid ((HKR.out.trans (G:=[c]) hk3 (fun k hk=>.inl (by simp at hk;simp [hk]))).trans (G:=[]) k34 (by simp))
    clear hs3 hk3 hw4 k34
    go_wp2_with fail
    go_ret2
    exact ⟨⟨_,HS4.out⟩,HW4.out,HK4.out,by rw [← HE2.out];rfl⟩
   | some nd =>
    have hcall:=nodeAt_some hst hdr HLIVE.out hem (HLO.out e hem) HKL.out dp stated hnode
    rw [hekey] at hcall
    have HCALL:=Lib.hid hcall
    have HND:=Lib.hid hnode
    have HWY:=Lib.hid hwy
    have HKR:=Lib.hid hk0r
    have HKR1:=Lib.hid hkr
    have H7:=Lib.hid h7
    have HPG:=Lib.hid (And.intro hpf (And.intro hrange he))
    have HDN:=Lib.hid hdown
    have HP0:=Lib.hid hp
    have hpb:(page != 0)=true:=by rw [bne_iff_ne];exact hp
    clear hst hwy hkr hk0r h7 hcall hdr hem he hekey hnode hpg hrange hdown hp
    have HOK:=Lib.hid (nodeAtL_ok HND.out)
    go_upto_region 6 with (first | (refine wpList_load_mid rfl 60 (.tmp 7) rfl q7 0 (by rfl) (key.map B) _ (rangeAt_all H7.out) Tryz.underlying60 rfl HSK.out ?_;try simp only [zA,zB,zC,zD,zE,zF,zG,zH]) | (go_at_call 52;refine HCALL.out.mono ?_;rintro r w3 ⟨a3,c3,rfl,hO3,hn3,hs3,hk3⟩;obtain ⟨N,hN⟩:∃ N,N=nodeC nd (.slice a3 nd.val.length c3):=⟨_,rfl⟩;rw [← hN];have HN:=Lib.hid (And.intro hN (And.intro (show N.length=102 by rw [hN];exact nodeC_length HOK.out _) (show ∀ v∈N,v.oneCell'=true by rw [hN];exact nodeC_ones)));have HO3:=Lib.hid (And.intro hO3 (And.intro hn3 (And.intro hs3 hk3)));clear hN hO3 hn3 hs3 hk3) | (refine wl_alloc rfl 90 rfl ?_;refine ⟨_,_,run_alloc _ HZI.out,?_⟩;(try simp only [Value.cells]);try simp only [zA,zB,zC,zD,zE,zF,zG,zH]) | (refine wl_store rfl 90 (.tmp 13) (.tmp 31) rfl ?_;refine ⟨_,run_store_node (heap_new_at rfl) HZ.out HN.out.2.1 HN.out.2.2,?_⟩;try simp only [zA,zB,zC,zD,zE,zF,zG,zH]))
    obtain ⟨q13,hq13⟩:∃ q,q=w3.heap.size:=⟨_,rfl⟩
    obtain ⟨w5,hw5⟩:∃ x,x=(w3.alloc (.cells Z.toArray 90 (0,0))).setCells q13 0 N:=⟨_,rfl⟩
    have b13:w5.heap[q13]?=some (.cells N.toArray 90 (0,0)):=by rw [hw5];exact store_all (heap_new_at hq13) (by rw [HZ.out,HN.out.2.1])
    have k35:Keeps [] w3 w5:=by rw [hw5];exact ((Keeps.refl _ _).alloc _).setCells (.inr (by omega)) _ _
    have kr5:Keeps [c] wr w5:=HO3.out.2.2.2.trans (G:=[]) k35 (by simp)
    have HB13:=Lib.hid b13
    have HS5:=Lib.hid (HO3.out.2.2.1.keeps k35 (by simp))
    have HWY5:=Lib.hid (HWY.out.keeps kr5 (by simp;exact Ne.symm HCQ.out))
    have HK5:=Lib.hid (HKR.out.trans (G:=[c]) kr5 (fun k hk=>.inl (by simp at hk;simp [hk])))
    have HK15:=Lib.hid (HKR1.out.trans (G:=[c]) kr5 (fun k hk=>.inl (by simp at hk;simp [hk])))
    have HO5:=Lib.hid (show OwnB w5 (.slice a3 nd.val.length c3) nd.val from ownsRow_keep HO3.out.1 (fun k hk=>k35.block k (World.ownsRow.lt HO3.out.1 k hk).2 (by simp)))
    have HNB:=Lib.hid (show ∀ k,(Value.slice a3 nd.val.length c3).ownBlock=some k→w.heap.size≤k∧k≠q13 from fun k hk=>⟨Nat.le_trans HKR.out.size (HO3.out.2.1 k hk),fun e=>by have:=(World.ownsRow.lt HO3.out.1 k hk).2;omega⟩)
    have HNQ:=Lib.hid (show w.heap.size≤q13∧q7 < q13∧qw < q13∧c < q13 by
     have h1:=HKR.out.size
     have h2:=HO3.out.2.2.2.size
     have h3:=lt_of_heap H7.out
     have h4:=HNE.out
     omega)
    have H75:=Lib.hid (H7.out.keeps kr5 (by simp;have:=HNE.out;omega))
    rw [← hq13]
    rw [← hw5]
    obtain ⟨⟨n0,n1,n2,n3,n4,n5⟩,hrl,hrr,_,_⟩:=node_parts HOK.out (show w5.heap[q13]?=some (.cells (nodeC nd (.slice a3 nd.val.length c3)).toArray 90 (0,0)) by rw [b13,HN.out.1])
    have HRL:=Lib.hid hrl
    have HRR:=Lib.hid hrr
    have HNS:=Lib.hid (And.intro n1 (And.intro n2 (And.intro n3 n4)))
    clear hq13 hw5 b13 k35 kr5 hrl hrr n1 n2 n3 n4 n5 HO3 HWY HKR HKR1 H7 HCALL
    rcases nodeAtL_cases HND.out with ⟨kk,val,rfl,hkk,hvl,hcm⟩ | ⟨lp,lc,ls,rp,rc,rs,rfl,hbok,hls,hrs,hd256⟩
    ·have hk0:(leafN kk val).kind=1:=rfl
     rw [hk0] at n0
     have hd2:=downL_leaf (mark:=S.f.sup.mark) (f:=f') (S:=Sx) HP0.out HPG.out.2.2 HND.out rfl
     rw [HDN.out] at hd2
     injection hd2 with e1 e2
     subst e1
     subst e2
     have HVL:=Lib.hid hvl
     clear hk0 hkk hvl hcm
     go_wp2_with fail
     go_ret2
     exact ⟨⟨_,HS5.out⟩,HWY5.out,HK5.out,⟨q13,a3,c3,rfl,HNQ.out.1,by rw [HB13.out,HN.out.1],HO5.out,HNB.out,HOK.out,rfl,HVL.out⟩⟩
    ·have hk0:(branchN lp lc ls rp rc rs).kind=2:=rfl
     rw [hk0] at n0
     have hN5:=node_parts (w:=w5) HOK.out (show w5.heap[q13]?=some (.cells (nodeC (branchN lp lc ls rp rc rs) (.slice a3 (branchN lp lc ls rp rc rs).val.length c3)).toArray 90 (0,0)) by rw [HB13.out,HN.out.1])
     have HNP:=Lib.hid (show ∀ wx:World,Keeps [] w5 wx→(wx.cell? ⟨q13,1,none⟩=some (.int .i64 (lp:Int))∧wx.cell? ⟨q13,2,none⟩=some (.int .i64 (rp:Int))∧wx.cell? ⟨q13,3,none⟩=some (.int .i64 (lc:Int))∧wx.cell? ⟨q13,4,none⟩=some (.int .i64 (rc:Int)))∧wx.rangeAt q13 5 (ls.map B)∧wx.rangeAt q13 37 (rs.map B) from fun wx hkx=>by
      obtain ⟨⟨_,a1,a2,a3,a4,_⟩,r1,r2,_,_⟩:=node_parts (w:=wx) HOK.out (show wx.heap[q13]?=some (.cells (nodeC (branchN lp lc ls rp rc rs) (.slice a3 (branchN lp lc ls rp rc rs).val.length c3)).toArray 90 (0,0)) by rw [hkx.block q13 (lt_of_heap HB13.out) (by simp),HB13.out,HN.out.1])
      exact ⟨⟨a1,a2,a3,a4⟩,r1,r2⟩)
     obtain ⟨m,hm⟩:∃ m,dp+m=255:=⟨255 - dp,by omega⟩
     have e255:(255:Int) - (dp:Int)=(m:Int):=by omega
     have wm:wrap64 (m:Int)=(m:Int):=by unfold wrap64;omega
     have HM:=Lib.hid hm
     have HLS:=Lib.hid (And.intro hls hrs)
     have HSL:=Lib.hid (dg_size_of hls)
     have HSR:=Lib.hid (dg_size_of hrs)
     have HBO:=Lib.hid hbok
     have HAL:=Lib.hid (show ∀ w:World,(Instr.alloc 88 true (.tuple #[])).run Tryz.prog w=.ok (.pointer (some ⟨w.heap.size,0,none⟩)) (w.alloc (.cells X 88 (0,0))) from fun w=>run_alloc w HXI.out)
     have HBIT:=Lib.hid (fun wx:World=>baBit_any (w:=wx) HKL.out dp (by omega))
     obtain ⟨bt,hbt⟩:∃ bt,bt=bitK key dp:=⟨_,rfl⟩
     have HBT:=Lib.hid hbt
     have hbc:=bitK_cases key dp
     rw [← hbt] at hbc
     clear hk0 hN5 hm hls hrs hbok hbt
     have hd256':=Lib.hid hd256
     clear hd256
     go_upto_region 11 with fail
     obtain ⟨w6,hw6⟩:∃ x,x=w5.drew.alloc (.cells X 88 (0,0)):=⟨_,rfl⟩
     obtain ⟨q18,hq18⟩:∃ q,q=w5.drew.heap.size:=⟨_,rfl⟩
     have k6:Keeps [] w5 w6:=by rw [hw6];exact ((Keeps.refl _ _).drew).alloc _
     have b6:w6.heap[q18]?=some (.cells (Array.replicate 32 (Value.int .u8 0)) 88 (0,0)):=by rw [hw6,← HX.out];exact heap_new_at hq18
     obtain ⟨w7,hw7⟩:∃ x,x=w6.setCells q18 0 (rs.map B):=⟨_,rfl⟩
     have hq185:w5.heap.size=q18:=hq18.symm
     have k7:Keeps [] w5 w7:=by rw [hw7];exact k6.setCells (.inr (by omega)) _ _
     have b7:Blk w7 q18 88 rs:=by rw [hw7];exact dg_store b6 HLS.out.2
     have HST:=Lib.hid (dg_run_store b6 HLS.out.2)
     have HW6:=Lib.hid hw6
     have HW7:=Lib.hid hw7
     have HQ18:=Lib.hid hq18
     have HQ5:=Lib.hid hq185
     have HK6:=Lib.hid k6
     have HK7:=Lib.hid k7
     have HB7':=Lib.hid b7
     clear hw6 hw7 hq18 hq185 k6 k7 b6 b7
     refine wp_region_held_drew (S:=(fun w'=>(w'.cell? ⟨q13,1,none⟩=some (.int .i64 (lp:Int))∧w'.cell? ⟨q13,2,none⟩=some (.int .i64 (rp:Int)))∧w'.rangeAt q13 37 (rs.map B))) (by kernel_rfl) ?_ (fun hHeld=>?_)
     ·obtain ⟨⟨n1,n2,n3,n4⟩,_,r2⟩:=HNP.out w5.drew ((Keeps.refl _ _).drew)
      exact ⟨⟨n1,n2⟩,r2⟩
     refine tk 0 ?_
     refine tk 1 ?_
     refine tk 2 ?_
     refine tk 3 ?_
     refine tk 4 ?_
     refine tkb 5 rfl (yieldsIf_load_mid (by rfl) 88 (.tmp 45) rfl q13 37 rfl (rs.map B) _ (fun _ h=>h.2) Tryz.underlying88 rfl HSR.out) ?_
     refine ac 6 fun K hK=>?_
     (refine st_alloc rfl 88 rfl ?_;refine ⟨_,_,HAL.out _,?_⟩;try simp only [zA,zB,zC,zD,zE,zF,zG,zH])
     rw [← HW6.out,← HQ18.out]
     refine hK.out _ _ ?_ (fun hHeld=>?_)
     ·obtain ⟨⟨n1,n2,n3,n4⟩,_,r2⟩:=HNP.out w6 HK6.out
      exact ⟨⟨n1,n2⟩,r2⟩
     clear hK K
     try simp only [zA,zB,zC,zD,zE,zF,zG,zH]
     refine tk 7 ?_
     refine tk 8 ?_
     refine ac 9 fun K hK=>?_
     (refine st_store rfl 88 (.tmp 18) (.tmp 46) rfl ?_;refine ⟨_,HST.out,?_⟩;try simp only [zA,zB,zC,zD,zE,zF,zG,zH])
     rw [← HW7.out]
     refine hK.out _ _ ?_ (fun hHeld=>?_)
     ·obtain ⟨⟨n1,n2,n3,n4⟩,_,r2⟩:=HNP.out w7 HK7.out
      exact ⟨⟨n1,n2⟩,r2⟩
     clear hK K
     try simp only [zA,zB,zC,zD,zE,zF,zG,zH]
     refine wpAnyH_done (by kernel_rfl) ?_ _
     clear hHeld
     obtain ⟨⟨n1,n2,n3,n4⟩,_,_⟩:=HNP.out w7 HK7.out
     have h77:=Lib.hid (H75.out.keeps HK7.out (by simp))
     go_upto_if 52 with (first | (refine wpList_load_mid rfl 60 (.tmp 7) rfl q7 0 (by rfl) (key.map B) _ (rangeAt_all h77.out) Tryz.underlying60 rfl HSK.out ?_;try simp only [zA,zB,zC,zD,zE,zF,zG,zH]) | (go_at_call 53;refine (HBIT.out _).mono ?_;rintro r w8 ⟨rfl,hk8⟩;rw [← HBT.out]))
     obtain ⟨wb,hwb⟩:∃ x:World,x=w8:=⟨_,rfl⟩
     have hk58:Keeps [] w5 w8:=HK7.out.trans (G:=[]) hk8 (by simp)
     have hq58:w5.heap.size < w8.heap.size:=Nat.lt_of_lt_of_le (by rw [HQ5.out];exact lt_of_heap HB7'.out) hk8.size
     have HB8:=Lib.hid (HB7'.out.keeps hk8 (by simp))
     have HK8:=Lib.hid hk58
     have HQ8:=Lib.hid hq58
     clear n1 n2 n3 n4 hk8 hk58 hq58 hwb wb
     obtain ⟨NX,hNX⟩:∃ x,x=dNext (branchN lp lc ls rp rc rs) bt:=⟨_,rfl⟩
     obtain ⟨OT,hOT⟩:∃ x,x=dOther (branchN lp lc ls rp rc rs) bt:=⟨_,rfl⟩
     obtain ⟨ST,hST⟩:∃ x,x=dStated (branchN lp lc ls rp rc rs) bt:=⟨_,rfl⟩
     obtain ⟨SM,hSM⟩:∃ x,x=dSum (branchN lp lc ls rp rc rs) bt:=⟨_,rfl⟩
     have HNX:=Lib.hid hNX
     have HOT:=Lib.hid hOT
     have HSTT:=Lib.hid hST
     have HSM:=Lib.hid hSM
     have HBC:=Lib.hid hbc
     clear hNX hOT hST hSM hbc
     go_cut [11,16,17] from 53 to 60 (fun st nx ot wx=>st=.int .i64 ST∧nx=.int .i64 NX∧ot=.int .i64 OT∧Blk wx q18 88 SM∧Keeps [q18] w8 wx)
     case first =>
      rcases HBC.out with hb0 | hb1
      ·subst hb0
       have eN:(lp:Int)=NX:=HNX.out.symm
       have eO:(rp:Int)=OT:=HOT.out.symm
       have eS:(lc:Int)=ST:=HSTT.out.symm
       have eM:rs=SM:=HSM.out.symm
       have HE:=Lib.hid (And.intro eN (And.intro eO (And.intro eS eM)))
       clear eN eO eS eM
       go_wp2_with fail
       go_meet
       case rel =>
        obtain ⟨eN,eO,eS,eM⟩:=HE.out
        exact ⟨by rw [eS],by rw [eN],by rw [eO],by rw [← eM];exact HB8.out,Keeps.refl _ _⟩
      ·subst hb1
       have eN:(rp:Int)=NX:=HNX.out.symm
       have eO:(lp:Int)=OT:=HOT.out.symm
       have eS:(rc:Int)=ST:=HSTT.out.symm
       have eM:ls=SM:=HSM.out.symm
       have HE:=Lib.hid (And.intro eN (And.intro eO (And.intro eS eM)))
       clear eN eO eS eM
       obtain ⟨⟨n1,n2,n3,n4⟩,_,_⟩:=HNP.out w8 HK8.out
       go_upto_region 14 with fail
       have HST2:=Lib.hid (dg_run_store2 (w:=w8.drew) (x:=ls) (show Blk w8.drew q18 88 rs from HB8.out) HLS.out.2 HLS.out.1)
       obtain ⟨w9,hw9⟩:∃ x,x=w8.drew.setCells q18 0 (ls.map B):=⟨_,rfl⟩
       have k89:Keeps [q18] w8 w9:=by rw [hw9];exact ((Keeps.refl _ _).drew).setCells (.inl (by simp)) _ _
       have k59:Keeps [] w5 w9:=by rw [hw9];exact (HK8.out.drew).setCells (.inr (by have:=HQ5.out;omega)) _ _
       have b9:Blk w9 q18 88 ls:=by rw [hw9];exact dg_store2 (show Blk w8.drew q18 88 rs from HB8.out) HLS.out.2 HLS.out.1
       have HW9:=Lib.hid hw9
       have HK89:=Lib.hid k89
       have HK59:=Lib.hid k59
       have HB9:=Lib.hid b9
       clear hw9 k89 k59 b9 n1 n2 n3 n4
       refine wp_region_held_drew (S:=(fun w'=>(w'.cell? ⟨q13,1,none⟩=some (.int .i64 (lp:Int))∧w'.cell? ⟨q13,2,none⟩=some (.int .i64 (rp:Int)))∧w'.rangeAt q13 5 (ls.map B))) (by kernel_rfl) ?_ (fun hHeld=>?_)
       ·obtain ⟨⟨n1,n2,n3,n4⟩,r1,_⟩:=HNP.out w8.drew (HK8.out.drew)
        exact ⟨⟨n1,n2⟩,r1⟩
       refine tk 0 ?_
       refine tk 1 ?_
       refine tk 2 ?_
       refine tk 3 ?_
       refine tk 4 ?_
       refine tkb 5 rfl (yieldsIf_load_mid (by rfl) 88 (.tmp 57) rfl q13 5 rfl (ls.map B) _ (fun _ h=>h.2) Tryz.underlying88 rfl HSL.out) ?_
       refine tk 6 ?_
       refine tk 7 ?_
       refine ac 8 fun K hK=>?_
       (refine st_store rfl 88 (.tmp 18) (.tmp 58) rfl ?_;refine ⟨_,HST2.out,?_⟩;try simp only [zA,zB,zC,zD,zE,zF,zG,zH])
       rw [← HW9.out]
       refine hK.out _ _ ?_ (fun hHeld=>?_)
       ·obtain ⟨⟨n1,n2,n3,n4⟩,r1,_⟩:=HNP.out w9 HK59.out
        exact ⟨⟨n1,n2⟩,r1⟩
       clear hK K
       try simp only [zA,zB,zC,zD,zE,zF,zG,zH]
       refine wpAnyH_done (by kernel_rfl) ?_ _
       clear hHeld
       obtain ⟨⟨n1,n2,n3,n4⟩,_,_⟩:=HNP.out w9 HK59.out
       go_wp2_with fail
       go_meet
       case rel =>
        obtain ⟨eN,eO,eS,eM⟩:=HE.out
        exact ⟨by rw [eS],by rw [eN],by rw [eO],by rw [← eM];exact HB9.out,HK89.out⟩
     case rest =>
      obtain ⟨rfl,rfl,rfl,hb9,hk9⟩:=hcut
      obtain ⟨wz,rfl⟩:∃ x:World,x=wc:=⟨_,rfl⟩
      have k5z:Keeps [] w5 wz:=HK8.out.trans (G:=[q18]) hk9 (fun k hk=>.inr (by simp at hk;have:=HQ5.out;omega))
      have hwz:=HWY5.out.keeps k5z (by simp)
      have hsm:SM.length=32:=by
       rw [HSM.out]
       unfold dSum
       split
       ·exact HLS.out.1
       ·exact HLS.out.2
      have e255m:255 - dp=m:=by have:=HM.out;omega
      have HE255:=Lib.hid e255m
      have HSML:=Lib.hid hsm
      have HSDM:=Lib.hid (dg_size_of hsm)
      have HWYZ:=Lib.hid hwz
      have HK5Z:=Lib.hid k5z
      have HBZ:=Lib.hid hb9
      have hmr:m < 256:=by have:=HM.out;omega
      have HMR:=Lib.hid hmr
      have mb0:(0:Int)≤(m:Int):=by omega
      have mb1:(m:Int) < 256:=by omega
      clear e255m hsm hwz k5z hb9 hk9 hmr HNP HB8 HK8 HB7' HK7 HK6 HST
      go_upto_if 62 with fail
      go_cut [] from 63 to 68 (fun wx=>WayAt wx qw n (dSums Sx (branchN lp lc ls rp rc rs) dp bt) E∧Keeps [qw] wz wx)
      case first =>
       by_cases hO:OT=0
       ·subst hO
        go_wp2_with fail
        go_meet
        case rel=>exact ⟨by unfold dSums;rw [if_pos HOT.out.symm];exact HWYZ.out,Keeps.refl _ _⟩
       ·have hob:(OT != 0)=true:=by rw [bne_iff_ne];exact hO
        have HO0:=Lib.hid hO
        clear hO
        go_upto_region 17 with fail
        have HST3:=Lib.hid (way_store (w:=wz.drew) (o:=1+m * 32) (x:=SM) (show wz.drew.heap[qw]?=_ from HWYZ.out.row) (by rw [List.length_cons,List.length_append,sumCells_length HWYZ.out.s32,sumCells_length HWYZ.out.e32,HWYZ.out.lenS,HWYZ.out.lenE];have:=HMR.out;omega) HSML.out)
        obtain ⟨wd,hwd⟩:∃ x,x=wz.drew.setCells qw (1+m * 32) (SM.map B):=⟨_,rfl⟩
        have kzd:Keeps [qw] wz wd:=by rw [hwd];exact ((Keeps.refl _ _).drew).setCells (.inl (by simp)) _ _
        have hwayd:WayAt wd qw n (Sx.set m SM) E:=by rw [hwd];exact WayAt.set (HWYZ.out.keeps ((Keeps.refl [] wz).drew) (by simp)) HMR.out HSML.out
        have hbd:Blk wd q18 88 SM:=HBZ.out.keeps kzd (by simp;have:=HNQ.out;have:=HQ5.out;have:=lt_of_heap HB13.out;omega)
        have HWD:=Lib.hid hwd
        have HKZD:=Lib.hid kzd
        have HWAYD:=Lib.hid hwayd
        have HBD:=Lib.hid hbd
        clear hwd kzd hwayd hbd
        refine wp_region_held_drew (S:=(fun w'=>w'.rangeAt q18 0 (SM.map B))) (by kernel_rfl) ?_ (fun hHeld=>?_)
        ·exact rangeAt_all HBZ.out
        refine tk 0 ?_
        refine tk 1 ?_
        refine tkb 2 rfl (yieldsIf_load_mid (by rfl) 88 (.tmp 18) rfl q18 0 rfl (SM.map B) _ (fun _ h=>h) Tryz.underlying88 rfl HSDM.out) ?_
        refine tk 3 ?_
        refine tk 4 ?_
        refine tk 5 ?_
        refine ac 6 fun K hK=>?_
        (refine st_store rfl 88 (.tmp 68) (.tmp 65) rfl ?_;refine ⟨_,HST3.out,?_⟩;try simp only [zA,zB,zC,zD,zE,zF,zG,zH])
        rw [← HWD.out]
        refine hK.out _ _ ?_ (fun hHeld=>?_)
        ·exact rangeAt_all HBD.out
        clear hK K
        try simp only [zA,zB,zC,zD,zE,zF,zG,zH]
        refine wpAnyH_done (by kernel_rfl) ?_ _
        clear hHeld
        go_wp2_with fail
        go_meet
        case rel =>
         refine ⟨?_,HKZD.out⟩
         unfold dSums
         rw [if_neg (by rw [← HOT.out];exact HO0.out),HE255.out,← HSM.out]
         exact HWAYD.out
      case rest =>
       obtain ⟨hway,hkz⟩:=hcut
       have k5c:Keeps [qw] w5 wc:=(HK5Z.out.mono (G:=[qw]) (by simp)).trans (G:=[qw]) hkz (fun k hk=>.inl hk)
       have HSC:=Lib.hid (HS5.out.keeps k5c (fun k hk e=>HQW.out (by simp at e;subst e;exact hk)))
       have HKC:=Lib.hid (HK5.out.trans (G:=[qw]) k5c (fun k hk=>.inl (by simp at hk;simp [hk])))
       have HKC1:=Lib.hid (HK15.out.trans (G:=[qw]) k5c (fun k hk=>.inl (by simp at hk;simp [hk])))
       have HWAYC:=Lib.hid hway
       clear hway hkz k5c mb0 mb1 e255 wm
       by_cases hg:page≤NX
       ·have hd2:=downL_bad (mark:=S.f.sup.mark) (f:=f') (S:=Sx) HP0.out HPG.out.2.2 HND.out (by show ¬ (2:Int)=1;decide) (by rw [← HBT.out,← HNX.out];exact hg)
        rw [HDN.out] at hd2
        injection hd2 with e1 e2
        subst e2
        rw [← HBT.out] at e1
        subst e1
        go_wp2_with fail
        go_ret2
        exact ⟨⟨_,HSC.out⟩,HWAYC.out,HKC.out,rfl⟩
       ·have hd2:=downL_next (mark:=S.f.sup.mark) (f:=f') (S:=Sx) HP0.out HPG.out.2.2 HND.out (by show ¬ (2:Int)=1;decide) (by rw [← HBT.out,← HNX.out];exact hg)
        rw [HDN.out,← HBT.out,← HNX.out,← HSTT.out] at hd2
        have HD2:=Lib.hid hd2
        have hnx:NX=0∨2≤NX:=by
         have hb:=HBO.out
         unfold branchOk at hb
         simp only [Bool.and_eq_true] at hb
         rw [HNX.out]
         unfold dNext
         split
         ·rcases childOk_page hb.1.1.1.2 with h | h
          ·exact .inl (by show (rp:Int)=0;omega)
          ·exact .inr (by show 2≤(rp:Int);omega)
         ·rcases childOk_page hb.1.1.1.1 with h | h
          ·exact .inl (by show (lp:Int)=0;omega)
          ·exact .inr (by show 2≤(lp:Int);omega)
        have HNXR:=Lib.hid hnx
        clear hd2 hnx
        go_wp2_with fail
        go_roundw
        case rel =>
         have h1:=HPG.out
         have h2:=HNXR.out
         have h3:=HM2.out
         have h4:=HM.out
         exact ⟨f',NX,ST,dp+1,_,_,rfl,rfl,by go_num,by omega,by omega,by omega,HD2.out.symm,HSC.out,HWAYC.out,HKC1.out⟩
        case measure =>
         have h1:=HPG.out
         have h2:=HNXR.out
         have h3:=HM2.out
         simp [intOf]
         omega
open Go.RowKit
def pvSums (R:DR) (key:List UInt8) (k:Nat) (S:List (List UInt8)):List (List UInt8):=match R with
 | .leaf nd=>if nd.key=key then S else S.set (255 - commonK nd.key key) (climbD k nd.key 0 (leafD k nd.key nd.val) (255 - commonK nd.key key))
 | _=>S
def pvFound (R:DR) (key:List UInt8):Bool:=match R with
 | .leaf nd=>decide (nd.key=key)
 | _=>false
def pvVal (R:DR) (key:List UInt8):List UInt8:=match R with
 | .leaf nd=>if nd.key=key then nd.val else []
 | _=>[]
def pvBits (S E:List (List UInt8)):Nat→List UInt8
 | 0=>List.replicate 32 0
 | j+1=>if S.getD j []=E.getD j [] then pvBits S E j else (pvBits S E j).set (j / 8) (UInt8.ofNat ((pvBits S E j).getD (j / 8) 0).toNat ||| UInt8.ofNat (2 ^ (j % 8)))
def pvOnes (S E:List (List UInt8)):Nat→List (List UInt8)
 | 0=>[]
 | j+1=>if S.getD j []=E.getD j [] then pvOnes S E j else pvOnes S E j++[S.getD j []]
theorem pvBits_length (S E:List (List UInt8)):∀ j,(pvBits S E j).length=32
 | 0=>by simp [pvBits]
 | j+1=>by
  rw [pvBits]
  split
  ·exact pvBits_length S E j
  ·rw [List.length_set];exact pvBits_length S E j
theorem pvOnes_len (S E:List (List UInt8)):∀ j,(pvOnes S E j).length≤j
 | 0=>by simp [pvOnes]
 | j+1=>by
  rw [pvOnes]
  have:=pvOnes_len S E j
  split
  ·omega
  ·rw [List.length_append];simp;omega
def pvPf (R:DR) (key:List UInt8) (k:Nat) (S:List (List UInt8)):Pf:=⟨pvFound R key,pvVal R key,pvBits (pvSums R key k S) (emptiesL k 256) 256,pvOnes (pvSums R key k S) (emptiesL k 256) 256⟩
def LeafAt (w:World) (n:Nat) (ptr:Option Addr):DR→Prop
 | .err=>False
 | .none=>ptr=none
 | .leaf nd=>∃ q a c,ptr=some ⟨q,0,none⟩∧n≤q∧w.heap[q]?=some (.cells (nodeC nd (.slice a nd.val.length c)).toArray 90 (0,0))∧OwnB w (.slice a nd.val.length c) nd.val∧(∀ k,(Value.slice a nd.val.length c).ownBlock=some k→n≤k∧k≠q)∧nd.ok∧nd.kind=1∧nd.val.length≤128
theorem downPost_leaf {w w':World} {R:DR} {r:Ending} (h:DownPost w w' R r) (hR:R≠.err):∃ ptr,r=.returned (.tuple #[.pointer ptr,.int .i64 0])∧LeafAt w' w.heap.size ptr R:=by
 match R,h with
 | .err,_=>exact absurd rfl hR
 | .none,h=>exact ⟨none,h,rfl⟩
 | .leaf nd,⟨q,a,c,h1,h2⟩=>exact ⟨_,h1,q,a,c,rfl,h2⟩
set_option maxRecDepth 100000 in
set_option maxHeartbeats 6400000 in
theorem prove_err {w:World} {s b bf c bm fuel:Nat} {S:St} {sv:Value} {d:D} {F:List Nat} {root:Int} {key:List UInt8} {S':List (List UInt8)} {R:DR} (h:StoreIn w s b S bf c bm sv) (hm2:S.f.sup.mark=2) (hd:DiskAt w b d F) (hl:liveE d S.f=0) (hlo:∀ e∈S.C.kept,e.load.length≤246)
  (hF:∀ k∈F,k≠c) (h1:1≤S.f.sup.width) (h2:S.f.sup.width≤32) (ht:Tabs w) (htc:2≠c∧0≠c) (hkl:key.length=32) (hr2:2≤root) (hrn:root < S.f.sup.mark+S.C.kept.length) (hf:root < fuel)
  (hR:downL S.C.kept S.f.sup.mark key fuel root (-1) 0 (emptiesL S.f.sup.width.toNat 256)=(S',R)) (hRe:R=.err) :
  Calls Tryz.prog 12 #[.pointer (some ⟨s,0,none⟩),.int .i64 root,.agg (key.map B).toArray] w fun r w'=>r=refusal 4∧(∃ x,StoreIn w' s b (S.hit x) bf c bm sv)∧Keeps [c] w w':=by
 obtain ⟨Z,⟨hZ,hZi,hZ1⟩,hZb⟩:∃ Z:List Value,(Z.length=35∧(Tryz.prog.info? 57).map (fun i=>(i.zero,i.size,i.bytes))=some (some (.agg Z.toArray),35,88)∧(∀ v∈Z,v.oneCell'=true))∧Z=pfZC:=⟨_,pfZC_spec,rfl⟩
 have hbld:∀ w,(Instr.build 57 #[]).run Tryz.prog w=.ok (.agg Z.toArray) w:=fun w=>by rw [hZb];exact run_build_pfZ w
 unfold refusal
 rw [← hZb]
 have hmark:=h.mark
 have hroom:=h.room
 obtain ⟨N,hN⟩:∃ N:Int,N=S.f.sup.mark+S.C.kept.length:=⟨_,rfl⟩
 have hrn0:=hrn
 have q0:¬ root=0:=by omega
 have q1:¬ root < 2:=by omega
 have q2:¬ N≤root:=by omega
 obtain ⟨q5,hq5⟩:∃ q,q=w.heap.size:=⟨_,rfl⟩
 obtain ⟨q,hq0⟩:∃ q,q=(w.alloc (.cells (key.map B).toArray 60 (0,0))).heap.size:=⟨_,rfl⟩
 have hq:q=w.heap.size+1:=by rw [hq0];simp
 have HQ0:=Lib.hid hq0
 clear hq0
 obtain ⟨w1,hw1⟩:∃ x,x=(w.alloc (.cells (key.map B).toArray 60 (0,0))).alloc (.cells Z.toArray 57 (0,0)):=⟨_,rfl⟩
 have k1:Keeps [] w w1:=by rw [hw1];exact ((Keeps.refl _ _).alloc _).alloc _
 have b1:w1.heap[q]?=some (.cells Z.toArray 57 (0,0)):=by rw [hw1];exact heap_new_at (by simp;omega)
 have b5:Blk w1 q5 60 key:=by rw [hw1];exact (heap_old_at (by simp;omega)).trans (heap_new_at hq5)
 have hs1:=h.keeps k1 (by simp)
 have hd1:=hd.keeps k1 (by simp)
 have ht1:=ht.keeps k1 (by simp) (by simp)
 have CL:=sLive_any hs1 hd1
 rw [hl] at CL
 have hnext:=fun (wx:World) (hk:Keeps [] w1 wx)=>sNext_any (hs1.keeps hk (by simp))
 rw [← hN] at hnext
 obtain ⟨SP,hSP⟩:∃ SP,SP=supV S.f.sup:=⟨_,rfl⟩
 have hsup:=fun (wx:World) (hk:Keeps [] w1 wx)=>sSuper_any (hs1.keeps hk (by simp))
 have hfw:=fun (wx:World)=>field_width wx S.f.sup
 rw [← hSP] at hsup hfw
 obtain ⟨n,hn⟩:∃ n,n=S.f.sup.width:=⟨_,rfl⟩
 rw [← hn] at h1 h2 hfw hR
 obtain ⟨E,hE⟩:∃ E,E=emptiesL n.toNat 256:=⟨_,rfl⟩
 rw [← hE] at hR
 have hdown:=fun (wx wy:World) (qw:Nat) (hk:Keeps [] w1 wy) (hk2:Keeps [] wy wx) (hqw:wy.heap.size≤qw) (hw:WayAt wx qw n E E) =>
  down_any (hs1.keeps (hk.trans (G:=[]) hk2 (by simp)) (by simp)) hm2 (hd1.keeps (hk.trans (G:=[]) hk2 (by simp)) (by simp)) hl hlo hw (fun hm=>by have:=(hs1.keeps hk (by simp)).lt qw hm;omega) (fun k hkF=>⟨hF k hkF,fun e=>by have:=(hd1.keeps hk (by simp)).lt k hkF;omega⟩) hkl root (.inr ⟨by omega,by omega⟩) hf hR
 have hbeg:=fun (wx:World) (hk:Keeps [] w1 wx)=>begin_any (w:=wx) n (by omega) (by omega) n.toNat (by omega) (ht1.keeps hk (by simp) (by simp))
 rw [← hE] at hbeg
 have CL':=Lib.hid CL
 have HNX:=Lib.hid hnext
 have HSU:=Lib.hid hsup
 have HFW:=Lib.hid hfw
 have HBG:=Lib.hid hbeg
 have HDN:=Lib.hid hdown
 have HZI:=Lib.hid hZi
 have HW1:=Lib.hid hw1
 have HQ:=Lib.hid hq
 have HQ5:=Lib.hid hq5
 have HK1:=Lib.hid k1
 have HB1:=Lib.hid b1
 have HB5:=Lib.hid b5
 have HC:=Lib.hid h.c_mem
 have HSLT:=Lib.hid h.lt
 have HZ:=Lib.hid (And.intro hZ hZ1)
 have HKL:=Lib.hid hkl
 have HSK:=Lib.hid (size_key_of hkl)
 have HSZ:=Lib.hid (show (Tryz.prog.info? 57).map (·.size)=some Z.length by rw [hZ];exact size_proof)
 have HT1:=Lib.hid (And.intro ht1 htc)
 have HN12:=Lib.hid (And.intro h1 h2)
 have HNE:=Lib.hid (And.intro hn hE)
 have HBL:=Lib.hid hbld
 clear hbld hZb
 clear hZi hw1 hq hq5 k1 b1 b5 hZ hZ1 CL hs1 hd1 h hd hl hkl hnext hsup hfw hdown hbeg hSP hN hmark hroom ht ht1 htc hm2 hlo hF hr2 hrn hrn0 hf hR h1 h2 hn hE
 have HRE:=Lib.hid hRe
 clear hRe
 go_enter Tryz.func12,Tryz.ntmps12
 go_upto_region 1 with (first | (refine wl_alloc rfl 57 rfl ?_;refine ⟨_,_,run_alloc _ HZI.out,?_⟩;try simp only [zA,zB,zC,zD,zE,zF,zG,zH]))
 try simp only [Value.cells]
 rw [← HW1.out,← HQ0.out,← HQ5.out]
 go_upto_region 4 with (first | (go_at_call 20;refine CL'.out.mono ?_;rintro r w2 ⟨rfl,hk2⟩))
 go_upto_region 6 with fail
 go_upto_region 8 with (first | (go_at_call 15;refine (HNX.out _ hk2).mono ?_;rintro r w3 ⟨rfl,hk3⟩))
 have hk13:=hk2.trans (G:=[]) hk3 (by simp)
 clear hk2 hk3
 go_upto_region 9 with (first | (go_at_call 9;refine (HSU.out _ hk13).mono ?_;rintro r w4 ⟨rfl,hk4⟩) | (refine wl_field rfl 42 (.tmp 39) 0 rfl ?_;refine ⟨_,_,HFW.out _,?_⟩;try simp only [zA,zB,zC,zD,zE,zF,zG,zH]) | (go_at_call 25;refine (HBG.out _ (hk13.trans (G:=[]) hk4 (by simp))).mono ?_;rintro r w5 ⟨qw,rfl,hway,hqw,hk5⟩))
 have hk14:=hk13.trans (G:=[]) hk4 (by simp)
 have hk15:=hk14.trans (G:=[]) hk5 (by simp)
 have HR5:=Lib.hid (rangeAt_all (HB5.out.keeps hk15 (by simp)))
 have HD5:=Lib.hid (HDN.out w5 w4 qw hk14 hk5 hqw hway)
 have HK15:=Lib.hid hk15
 have HQW:=Lib.hid (show w1.heap.size≤qw from Nat.le_trans hk14.size hqw)
 have HQW5:=Lib.hid (lt_of_heap hway.row)
 clear hk13 hk4 hk5 hk14 hk15 hway hqw
 go_upto_region 11 with (first | (refine wpList_load_mid rfl 60 (.tmp 5) rfl q5 0 (by rfl) (key.map B) _ HR5.out Tryz.underlying60 rfl HSK.out ?_;try simp only [zA,zB,zC,zD,zE,zF,zG,zH]) | (go_at_call 26;refine HD5.out.mono ?_;rintro r w6 ⟨⟨x6,hs6⟩,hwy6,hk6,hp6⟩;rw [HRE.out] at hp6;(have hp7:r=.returned (.tuple #[.pointer none,.int .i64 4]):=hp6);subst hp7))
 have hcq:q≠c:=by have:=HC.out;have:=HQ.out;omega
 have hqqw:q≠qw:=by have:=HQW.out;have:=lt_of_heap HB1.out;omega
 have hb6:=(hk6.block q (lt_of_heap ((HK15.out.block q (lt_of_heap HB1.out) (by simp)).trans HB1.out)) (by simp;exact ⟨hcq,hqqw⟩)).trans ((HK15.out.block q (lt_of_heap HB1.out) (by simp)).trans HB1.out)
 have HB6:=Lib.hid hb6
 have HS6:=Lib.hid hs6
 have HK6:=Lib.hid (show Keeps [c] w w6 from ((HK1.out.trans (G:=[]) HK15.out (by simp)).mono (G:=[c]) (by simp)).trans (G:=[c,qw]) hk6 (fun j hj=>by
  simp at hj
  rcases hj with rfl | rfl
  ·exact .inl (by simp)
  ·exact .inr (Nat.le_trans HK1.out.size HQW.out)))
 clear hb6 hs6 hk6 hwy6 HR5 HD5 hp6
 go_wp2_with (first | (refine wl_build rfl 57 #[] #[] rfl (by simp [Act.eval]) ?_;refine ⟨_,_,HBL.out _,?_⟩;try simp only [zA,zB,zC,zD,zE,zF,zG,zH]) | (refine wl_store rfl 57 (.tmp 6) (.tmp 52) rfl ?_;refine ⟨_,run_store_pf HB6.out HZ.out.1 HZ.out.1 HZ.out.2,?_⟩;try simp only [zA,zB,zC,zD,zE,zF,zG,zH]))
 have k7:Keeps [q] w6 (w6.setCells q 0 Z):=(Keeps.refl _ _).setCells (.inl (by simp)) _ _
 refine bodyPost_ret (results_row2 (cs:=Z) rfl rfl rfl (rangeAt_all (store_all HB6.out rfl)) Tryz.underlying57 rfl HSZ.out) rfl ⟨rfl,⟨x6,?_⟩,?_⟩
 ·refine HS6.out.keeps k7 (fun k hk e=>?_)
  simp at e
  subst e
  have:=HSLT.out k hk
  have:=HQ.out
  omega
 ·exact HK6.out.setCells (.inr (by rw [HQ.out];omega)) _ _
end Go.Proofs.YtakaocenbempmaaGreatDoor
