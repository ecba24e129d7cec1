/-
  Lemmas of a claim, bundle f: XLfA XLfB XLfC XLfE.
-/
import Derived.Test.YtakaocenbempmaaGreatDoorPfc
import Derived.Test.YtakaocenbempmaaGreatDoorPfe
import Derived.Test.YtakaocenbempmaaGreatDoorPfb
import Derived.Test.YtakaocenbempmaaGreatDoorPfV
import Derived.Test.YtakaocenbempmaaGreatDoorPfY
import Derived.Test.YtakaocenbempmaaGreatDoorPfa
set_option linter.unusedVariables false
set_option linter.unusedSimpArgs false
namespace Go.Proofs.YtakaocenbempmaaGreatDoor
open Go.RowKit
theorem end_exists {L:List (Int × List UInt8)} {key:List UInt8} {k f:Nat} {page above stated:Int} {n:Nat} {ns:List Nde} (h:pathL L key f page above stated n=some ns):∃ o,EndOk ns key k o:=by
 by_cases ha:∀ nd∈ns,nd.kind≠1
 ·exact ⟨⟨ns.length,false,[],-1,[]⟩,.inl ⟨rfl,ha,rfl,rfl,rfl⟩⟩
 ·obtain ⟨nd,hm,hk1⟩:∃ nd,nd∈ns∧nd.kind=1:=Classical.byContradiction fun hn=>ha fun nd hm hk=>hn ⟨nd,hm,hk⟩
  obtain ⟨i,hi⟩:=List.mem_iff_getElem?.1 hm
  rcases pathL_ok h i nd hi with ⟨kk,v,rfl,h32,_,_,hl⟩ | ⟨lp,lc,ls,rp,rc,rs,rfl,_⟩
  ·by_cases he:(leafN kk v).key=key
   ·exact ⟨⟨i,true,(leafN kk v).val,-1,[]⟩,.inr ⟨_,hi,hk1,h32,hl,.inl ⟨he,rfl,rfl,rfl⟩⟩⟩
   ·exact ⟨⟨i,false,[],((255 - commonK (leafN kk v).key key:Nat):Int),climbD k (leafN kk v).key 0 (leafD k (leafN kk v).key (leafN kk v).val) (255 - commonK (leafN kk v).key key)⟩,.inr ⟨_,hi,hk1,h32,hl,.inr ⟨he,rfl,rfl,rfl,rfl⟩⟩⟩
  ·simp [branchN] at hk1
theorem overAt_length {L:List (Int × List UInt8)} {key:List UInt8} {k f:Nat} {page above stated:Int} {n:Nat} {ns:List Nde} (h:pathL L key f page above stated n=some ns) (hk:k≤32) {o:OverEnd} (ho:EndOk ns key k o) (j:Nat):(overAt ns key k o j).length=32:=by
 unfold overAt
 split
 ·rename_i hla
  rcases ho with ⟨_,_,_,_,h1⟩ | ⟨nd,_,_,h32,_,⟨_,_,_,h1⟩ | ⟨_,_,_,_,h1⟩⟩
  ·omega
  ·omega
  ·rw [h1]
   exact climbD_length (leafD_length hk) hk
 ·split
  ·rename_i hm
   unfold besAt
   split
   ·exact emptyD_length hk _
   ·have hlt:255 - j < ns.length:=by
     rcases ho with ⟨h1,_⟩ | ⟨nd,h1,_⟩
     ·omega
     ·have:=(List.getElem?_eq_some_iff.1 h1).1
      omega
    have hi:ns[255 - j]?=some (ns.getD (255 - j) nd0):=by
     rw [List.getD_eq_getElem?_getD,List.getElem?_eq_getElem hlt];rfl
    have hok:(ns.getD (255 - j) nd0).ok:=by
     rcases pathL_ok h _ _ hi with ⟨kk,v,e,h32,_⟩ | ⟨lp,lc,ls,rp,rc,rs,e,_,hl,hr,_⟩
     ·rw [e];exact ⟨by simp [leafN,z32],by simp [leafN,z32],h32⟩
     ·rw [e];exact ⟨hl,hr,by simp [branchN,z32]⟩
    unfold dSum
    split
    ·exact hok.1
    ·exact hok.2.1
  ·exact emptyD_length hk _
theorem pvOnes_32 {S E:List (List UInt8)}:∀ n,(∀ j,j < n→(S.getD j []).length=32)→∀ s∈pvOnes S E n,s.length=32
 | 0,_,s,hs=>by simp [pvOnes] at hs
 | n+1,h,s,hs=>by
  rw [pvOnes] at hs
  split at hs
  ·exact pvOnes_32 n (fun j hj=>h j (by omega)) s hs
  ·rcases List.mem_append.1 hs with hs | hs
   ·exact pvOnes_32 n (fun j hj=>h j (by omega)) s hs
   ·simp only [List.mem_singleton] at hs
    rw [hs]
    exact h n (by omega)
theorem overPf_ok {L:List (Int × List UInt8)} {key:List UInt8} {k f:Nat} {page above stated:Int} {n:Nat} {ns:List Nde} (h:pathL L key f page above stated n=some ns) (hk:k≤32) {o:OverEnd} (ho:EndOk ns key k o):(overPf ns key k o).ok :=
 ⟨pvBits_length _ _ _,pvOnes_32 256 (fun j hj=>by rw [overT_getD _ _ _ _ hj];exact overAt_length h hk ho j)⟩
theorem pvBits_same (E:List (List UInt8)):∀ n,pvBits E E n=List.replicate 32 0
 | 0=>rfl
 | n+1=>by rw [pvBits,if_pos rfl];exact pvBits_same E n
theorem pvOnes_same (E:List (List UInt8)):∀ n,pvOnes E E n=[]
 | 0=>rfl
 | n+1=>by rw [pvOnes,if_pos rfl];exact pvOnes_same E n
def PfNew (w0 w:World) (v:Value) (p:Pf):Prop:=∃ vv sv,v=.agg (pfCells p vv sv).toArray∧OwnB w vv p.val∧SumsAt w sv p.sums∧p.ok∧∀ k,sv.ownBlock=some k→w0.heap.size≤k
theorem PfNew.pf {w0 w:World} {v:Value} {p:Pf} (h:PfNew w0 w v p):PfIn w v p:=by
 obtain ⟨vv,sv,e,h1,h2,h3,_⟩:=h
 exact ⟨vv,sv,e,ownB_bytes h1,h2,h3⟩
theorem pfZ_new (w0 w:World):PfNew w0 w (.agg pfZC.toArray) pfZ:=⟨_,_,rfl,World.ownsRow_nil _ _ _ _,.inl ⟨rfl,none,0,rfl,by simp [maxLen]⟩,⟨by simp [pfZ],by simp [pfZ]⟩,fun k hk=>by simp [Value.ownBlock] at hk⟩
def ProveAt (kept:List Ent) (k:Nat) (root:Int) (key:List UInt8) (p:Pf) (er:Int):Prop :=
 ∀ {w:World} {s b:Nat} {S:St} {d:D} {F G:List Nat},StoreOn w s b S d F G→S.C.kept=kept→S.f.sup.mark=2→S.f.sup.width=k→liveE d S.f=0→Tabs w→2 ∉ G∧0 ∉ G →
  Calls Tryz.prog 12 #[.pointer (some ⟨s,0,none⟩),.int .i64 root,.agg (key.map B).toArray] w fun r w'=>(∃ v,r=.returned (.tuple #[v,.int .i64 er])∧PfNew w w' v p)∧(∃ x,StoreOn w' s b (S.hit x) d F G)∧Keeps G w w'
def OverAt (kept:List Ent) (k:Nat) (root:Int) (key:List UInt8) (p:Pf) (er:Int):Prop :=
 ∀ {w:World} {kv lv:Value} {P:Nat→Prop},PagesIn w kv lv (entL kept) P→RTabs w →
  Calls Tryz.prog 13 #[.int .i64 k,.agg #[kv,lv],.int .i64 root,.agg (key.map B).toArray] w fun r w'=>(∃ v,r=.returned (.tuple #[v,.int .i64 er])∧PfNew w w' v p)∧Keeps [] w w'
theorem StoreOn.hitc {w w':World} {s b bf c bm:Nat} {S:St} {sv:Value} {d:D} {F:List Nat} (hd:DiskAt w b d F) (hap:∀ k∈F,k ∉ stF s bf c bm sv S) {x:Int} (hs:StoreIn w' s b (S.hit x) bf c bm sv) (hk:Keeps [c] w w') :
  StoreOn w' s b (S.hit x) d F (stF s bf c bm sv S)∧Keeps (stF s bf c bm sv S) w w':=by
 have hc:c∈stF s bf c bm sv S:=mem_stF.2 (.inr (.inr (.inl (by simp [caF]))))
 have hk':=hk.mono (G:=stF s bf c bm sv S) (fun k hk=>.inl (by simp at hk;subst hk;exact hc))
 exact ⟨⟨hd.keeps hk' hap,⟨bf,c,bm,sv,hs,rfl⟩,hap⟩,hk'⟩
theorem StoreOn.still {w w':World} {s b:Nat} {S:St} {d:D} {F G:List Nat} (h:StoreOn w s b S d F G) (hk:Keeps [] w w'):(∃ x,StoreOn w' s b (S.hit x) d F G)∧Keeps G w w' :=
 ⟨⟨S.C.hits,h.keeps hk (by simp) (by simp)⟩,hk.mono (by simp)⟩
theorem both {kept:List Ent} {k:Nat} (hk1:1≤k) (hk2:k≤32) {key:List UInt8} (hkl:key.length=32) (root:Int) (hlo:∀ e∈kept,e.load.length≤246) (hlen:kept.length≤4096) :
  ∃ p er,ProveAt kept k root key p er∧OverAt kept k root key p er:=by
 have hL:(entL kept).length=kept.length:=by simp [entL]
 have hld:∀ p∈entL kept,p.2.length≤1048576:=fun p hp=>by
  obtain ⟨e,he,rfl⟩:=List.mem_map.1 hp
  exact Nat.le_trans (hlo e he) (by omega)
 have hkn:(k:Int)=max 0 (min (k:Int) 32):=by omega
 have href:∀ (e:Int) (w0 w:World),∃ v,refusal e=.returned (.tuple #[v,.int .i64 e])∧PfNew w0 w v pfZ:=fun e w0 w=>⟨_,rfl,pfZ_new w0 w⟩
 by_cases h0:root=0
 ·subst h0
  refine ⟨pfZ,0,?_,?_⟩
  ·intro w s b S d F G hon h1 h2 h3 h4 ht hg
   obtain ⟨hd,⟨bf,c,bm,sv,hs,rfl⟩,hap⟩:=hon
   refine (prove_zero hs hd h4 (by rw [h3];omega) (by rw [h3];omega) ht hkl).mono ?_
   rintro r w' ⟨rfl,hk⟩
   obtain ⟨c1,c2⟩:=StoreOn.still ⟨hd,⟨bf,c,bm,sv,hs,rfl⟩,hap⟩ hk
   exact ⟨href 0 _ w',c1,c2⟩
  ·intro w kv lv P hp ht
   have hpath:pathL (entL kept) key (3+(entL kept).length) 0 (2+((entL kept).length:Int)) (-1) 0=some []:=by
    rw [show 3+(entL kept).length=(2+(entL kept).length)+1 by omega,pathL,if_pos rfl]
   refine (rPOver_some hp (by omega) hld hkl k k hkn ht 0 (by omega) (.inr rfl) (.inr rfl) hpath).mono ?_
   rintro r w' ⟨⟨o,vv,sv,ho,rfl,h1,h2,hnew⟩,hk⟩
   have hpf:overPf [] key k o=pfZ:=by
    have hR:downL kept 2 key (3+(entL kept).length) 0 (-1) 0 (emptiesL k 256)=(emptiesL k 256,DR.none):=by
     rw [show 3+(entL kept).length=(2+(entL kept).length)+1 by omega,downL,if_pos rfl]
    rw [← (prove_over (.inl rfl) hkl hR hpath ho).2]
    simp only [pvPf,pvFound,pvVal,pvSums,pvBits_same,pvOnes_same,pfZ]
   have hval:o.val=[]:=by
    have:=congrArg Pf.val hpf
    exact this
   rw [hpf] at h2 ⊢
   rw [hval] at h1
   exact ⟨⟨_,rfl,vv,sv,rfl,h1,h2,⟨by simp [pfZ],by simp [pfZ]⟩,hnew⟩,hk⟩
 by_cases hbad:root < 2∨2+(kept.length:Int)≤root
 ·refine ⟨pfZ,41,?_,?_⟩
  ·intro w s b S d F G hon h1 h2 h3 h4 ht hg
   have hst:=hon
   obtain ⟨hd,⟨bf,c,bm,sv,hs,rfl⟩,hap⟩:=hon
   by_cases hlow:root < 2
   ·refine (prove_low hs hd h4 key h0 hlow).mono ?_
    rintro r w' ⟨rfl,hk⟩
    obtain ⟨c1,c2⟩:=hst.still hk
    exact ⟨href 41 _ w',c1,c2⟩
   ·refine (prove_high hs hd h4 key h0 hlow rfl (by rw [h1,h2];omega)).mono ?_
    rintro r w' ⟨rfl,hk⟩
    obtain ⟨c1,c2⟩:=hst.still hk
    exact ⟨href 41 _ w',c1,c2⟩
  ·intro w kv lv P hp ht
   refine (rPOver_bad hp (by omega) hld hkl k k hkn ht root h0 (by rw [hL];exact hbad)).mono ?_
   rintro r w' ⟨rfl,hk⟩
   exact ⟨href 41 _ w',hk⟩
 have hroot:2≤root∧root < 2+(kept.length:Int):=by omega
 obtain ⟨S',R,hR⟩:∃ S' R,downL kept 2 key (3+(entL kept).length) root (-1) 0 (emptiesL k 256)=(S',R):=⟨_,_,rfl⟩
 cases hpath:pathL (entL kept) key (3+(entL kept).length) root (2+((entL kept).length:Int)) (-1) 0 with
 | none =>
  have hRe:=prove_over_none (.inr hroot) hR hpath
  refine ⟨pfZ,4,?_,?_⟩
  ·intro w s b S d F G hon h1 h2 h3 h4 ht hg
   obtain ⟨hd,⟨bf,c,bm,sv,hs,rfl⟩,hap⟩:=hon
   have hc:c∈stF s bf c bm sv S:=mem_stF.2 (.inr (.inr (.inl (by simp [caF]))))
   refine (prove_err hs h2 hd h4 (by rw [h1];exact hlo) (fun k hk e=>hap k hk (e ▸ hc)) (by rw [h3];omega) (by rw [h3];omega) ht ⟨fun e=>hg.1 (e ▸ hc),fun e=>hg.2 (e ▸ hc)⟩ hkl hroot.1 (by rw [h1,h2];exact hroot.2) (show root < ((3+(entL kept).length:Nat):Int) by omega) (by rw [h1,h2,h3];exact hR) hRe).mono ?_
   rintro r w' ⟨rfl,⟨x,hs'⟩,hk⟩
   obtain ⟨c1,c2⟩:=StoreOn.hitc hd hap hs' hk
   exact ⟨href 4 _ w',⟨x,c1⟩,c2⟩
  ·intro w kv lv P hp ht
   refine (rPOver_none hp (by omega) hld hkl k k hkn ht root (by omega) (.inr ⟨hroot.1,by rw [hL];exact hroot.2⟩) hpath.symm rfl).mono ?_
   rintro r w' ⟨rfl,hk⟩
   exact ⟨href 4 _ w',hk⟩
 | some ns =>
  obtain ⟨o0,ho0⟩:=end_exists (k:=k) hpath
  obtain ⟨hRe,hpv⟩:=prove_over (.inr hroot) hkl hR hpath ho0
  have hok:=overPf_ok hpath hk2 ho0
  rw [← hpv] at hok
  refine ⟨pvPf R key k S',0,?_,?_⟩
  ·intro w s b S d F G hon h1 h2 h3 h4 ht hg
   obtain ⟨hd,⟨bf,c,bm,sv,hs,rfl⟩,hap⟩:=hon
   have hc:c∈stF s bf c bm sv S:=mem_stF.2 (.inr (.inr (.inl (by simp [caF]))))
   have hwn:S.f.sup.width.toNat=k:=by rw [h3];rfl
   refine (prove_ok hs h2 hd h4 (by rw [h1];exact hlo) (fun k hk e=>hap k hk (e ▸ hc)) (by rw [h3];omega) (by rw [h3];omega) ht ⟨fun e=>hg.1 (e ▸ hc),fun e=>hg.2 (e ▸ hc)⟩ hkl hroot.1 (by rw [h1,h2];exact hroot.2) (show root < ((3+(entL kept).length:Nat):Int) by omega) (by rw [h1,h2,hwn];exact hR) hRe).mono ?_
   rintro r w' ⟨vv,sv',rfl,hv,hsum,_,hnew,⟨x,hs'⟩,hk⟩
   obtain ⟨c1,c2⟩:=StoreOn.hitc hd hap hs' hk
   rw [hwn] at hsum ⊢
   exact ⟨⟨_,rfl,vv,sv',rfl,hv,hsum,hok,hnew⟩,⟨x,c1⟩,c2⟩
  ·intro w kv lv P hp ht
   refine (rPOver_some hp (by omega) hld hkl k k hkn ht root (by omega) (.inl (by omega)) (.inl (by rw [hL];omega)) hpath).mono ?_
   rintro r w' ⟨⟨o,vv,sv,ho,rfl,h1,h2,hnew⟩,hk⟩
   have hpo:=(prove_over (.inr hroot) hkl hR hpath ho).2
   rw [← hpo] at h2 ⊢
   have hval:o.val=(pvPf R key k S').val:=by rw [hpo];rfl
   rw [hval] at h1
   exact ⟨⟨_,rfl,vv,sv,rfl,h1,h2,hok,hnew⟩,hk⟩
open Go.RowKit
def sF (n:String) (i:Nat):Field:={ name:=n,type:=3,offset:=i,embedded:=false,tag := "", pkgPath := "", byteOffset:=8 * i }
theorem sup_fields:(Tryz.prog.fieldsOf 42).toList=[sF "Width" 0,sF "Generation" 1,sF "Mark" 2,sF "Head" 3,sF "Pages" 4]:=by kernel_rfl
theorem sup_und:Tryz.prog.underlying 42=some (.struct (Tryz.prog.fieldsOf 42)):=by kernel_rfl
theorem sup_stood:Tryz.prog.stoodInHeld 42=false:=by kernel_rfl
theorem sup_part (s:Sup) (w:World):(part 3 (supC s).toArray 0).run Tryz.prog w=.ok (.int .i64 s.width) w∧(part 3 (supC s).toArray 1).run Tryz.prog w=.ok (.int .i64 s.gen) w∧(part 3 (supC s).toArray 2).run Tryz.prog w=.ok (.int .i64 s.mark) w∧(part 3 (supC s).toArray 3).run Tryz.prog w=.ok (.int .i64 s.head) w∧(part 3 (supC s).toArray 4).run Tryz.prog w=.ok (.int .i64 s.pages) w:=by
 refine ⟨?_,?_,?_,?_,?_⟩ <;> (simp only [part,isAgg_int,Sem.run_bind,Result.andThen_ok];rfl)
theorem sup_same (s:Sup) (w:World):(Op.equalIn 10000 42 (supV s) (supV s)).run Tryz.prog w=.ok true w:=by
 obtain ⟨a1,a2,a3,a4,a5⟩:=sup_part s w
 have e:=fun x:Int=>run_equalIn_int (P:=Tryz.prog) w 9998 3 .i64 .i64 x x Tryz.underlying3
 have h:=run_equalIn_struct (P:=Tryz.prog) w 9999 42 (supC s).toArray (supC s).toArray sup_und sup_stood
 have g1:=eqf_cons (f:=sF "Width" 0) (fs:=[sF "Generation" 1,sF "Mark" 2,sF "Head" 3,sF "Pages" 4]) (by decide) a1 a1 (e _)
 have g2:=eqf_cons (f:=sF "Generation" 1) (fs:=[sF "Mark" 2,sF "Head" 3,sF "Pages" 4]) (by decide) a2 a2 (e _)
 have g3:=eqf_cons (f:=sF "Mark" 2) (fs:=[sF "Head" 3,sF "Pages" 4]) (by decide) a3 a3 (e _)
 have g4:=eqf_cons (f:=sF "Head" 3) (fs:=[sF "Pages" 4]) (by decide) a4 a4 (e _)
 have g5:=eqf_cons (f:=sF "Pages" 4) (fs:=[]) (by decide) a5 a5 (e _)
 rw [sup_fields,g1,g2,g3,g4,g5,eqf_nil] at h
 refine Eq.trans h ?_
 simp
set_option maxRecDepth 100000 in
set_option maxHeartbeats 400000 in
theorem sStaged_any {w:World} {s b bf c bm:Nat} {S:St} {sv:Value} (h:StoreIn w s b S bf c bm sv) :
  Calls Tryz.prog 10 #[.pointer (some ⟨s,0,none⟩)] w fun e w'=>e=.returned (.int .i64 S.C.kept.length)∧w=w':=by
 obtain ⟨a,cp,rfl⟩:=h.form
 have h3:=h.cells.2.2
 have l0:=World.block_lt_of_cell? w _ h3
 obtain ⟨n,hn⟩:∃ n,n=S.C.kept.length:=⟨_,rfl⟩
 rw [← hn] at h3 ⊢
 clear h hn
 go_enter Tryz.func10,Tryz.ntmps10
 go_wp2_with fail
 go_ret
 exact ⟨rfl,rfl⟩
theorem counts_d {w:World} {b:Nat} {d:D} {F:List Nat} (h:DiskAt w b d F) :
  Calls Tryz.prog 11 #[.pointer (some ⟨b,0,none⟩)] w fun e w'=>e=.returned (.agg #[.int .i64 d.reads,.int .i64 d.writes,.int .i64 d.syncs,.int .i64 d.q.length])∧Keeps [] w w':=by
 obtain ⟨bp,qv,bm,hI,rfl⟩:=h
 obtain ⟨c0,c1,c2,c3,_⟩:=hI.cells
 exact dCounts_any c0 c1 c2 c3
set_option maxRecDepth 100000 in
set_option maxHeartbeats 1600000 in
theorem quiet_ok {w:World} {s b:Nat} {S:St} {d:D} {F G:List Nat} {r0 o0:Int} (h:StoreOn w s b S d F G) :
  Calls Tryz.prog 16 #[.pointer (some ⟨b,0,none⟩),.pointer (some ⟨s,0,none⟩),supV S.f.sup,.int .i64 S.C.kept.length,.agg #[.int .i64 r0,.int .i64 d.writes,.int .i64 d.syncs,.int .i64 o0]] w fun e w'=>e=.returned (.bool true)∧Keeps [] w w':=by
 have hlb:b < w.heap.size:=by
  obtain ⟨bp,qv,bm,hI,_⟩:=h.disk
  exact lt_of_heap hI.root
 have hcb:=(by obtain ⟨bp,qv,bm,hI,_⟩:=h.disk;exact hI.cells.1:w.cell? ⟨b,0,none⟩=some (.int .i64 d.reads))
 obtain ⟨n,hn⟩:∃ n,n=S.C.kept.length:=⟨_,rfl⟩
 obtain ⟨C,hC,hCv⟩:∃ C:List Value,C=supC S.f.sup∧supV S.f.sup=.agg C.toArray:=⟨_,rfl,rfl⟩
 obtain ⟨q7,hq7⟩:∃ q,q=w.heap.size:=⟨_,rfl⟩
 obtain ⟨q9,hq9⟩:∃ q,q=(w.alloc (.cells C.toArray 42 (0,0))).heap.size:=⟨_,rfl⟩
 have HC:=Lib.hid hC
 have HN:=Lib.hid hn
 have HH:=Lib.hid h
 have HSZ:=Lib.hid (show (Tryz.prog.info? 42).map (·.size)=some C.length by rw [hC,size_super];rfl)
 have HQ7:=Lib.hid hq7
 have HQ9:=Lib.hid hq9
 obtain ⟨wr,ww,hwr⟩:∃ a b:Int,d.writes=a∧d.syncs=b:=⟨_,_,rfl,rfl⟩
 rw [← hn,hCv,hwr.1,hwr.2]
 clear h hn hC hCv hq7 hq9 hcb
 go_enter Tryz.func16,Tryz.ntmps16
 go_upto_region 1 with fail
 obtain ⟨w1,hw1⟩:∃ x,x=(w.alloc (.cells C.toArray 42 (0,0))).alloc (.cells #[.int .i64 r0,.int .i64 wr,.int .i64 ww,.int .i64 o0] 45 (0,0)):=⟨_,rfl⟩
 have hq9':w.heap.size+1=q9:=by rw [HQ9.out];simp
 rw [← hw1,hq9',← HQ7.out]
 have hk1:Keeps [] w w1:=by rw [hw1];exact ((Keeps.refl _ _).alloc _).alloc _
 have h7:w1.heap[q7]?=some (.cells C.toArray 42 (0,0)):=by rw [hw1];exact (heap_old_at (by rw [HQ7.out];simp)).trans (heap_new_at HQ7.out)
 have h9:w1.heap[q9]?=some (.cells #[.int .i64 r0,.int .i64 wr,.int .i64 ww,.int .i64 o0] 45 (0,0)):=by rw [hw1];exact heap_new_at HQ9.out
 have HON:=Lib.hid (HH.out.keeps hk1 (by simp) (by simp))
 have CC:=counts_d HON.out.disk
 rw [hwr.1,hwr.2] at CC
 have CC':=Lib.hid CC
 have hlb1:b < w1.heap.size:=Nat.lt_of_lt_of_le hlb hk1.size
 have H7:=Lib.hid h7
 have H9:=Lib.hid h9
 have HK1:=Lib.hid hk1
 clear hw1 hq9' hk1 h7 h9 CC hlb
 go_upto_region 2 with (first | (go_at_call 11;refine CC'.out.mono ?_;rintro e w2 ⟨rfl,hk2⟩))
 obtain ⟨q11,hq11⟩:∃ q,q=w2.heap.size:=⟨_,rfl⟩
 obtain ⟨w3,hw3⟩:∃ x,x=w2.alloc (.cells #[.int .i64 d.reads,.int .i64 wr,.int .i64 ww,.int .i64 d.q.length] 45 (0,0)):=⟨_,rfl⟩
 rw [← hw3,← hq11]
 have hk3:Keeps [] w2 w3:=by rw [hw3];exact (Keeps.refl _ _).alloc _
 have hk13:=hk2.trans (G:=[]) hk3 (by simp)
 have h11:w3.heap[q11]?=some (.cells #[.int .i64 d.reads,.int .i64 wr,.int .i64 ww,.int .i64 d.q.length] 45 (0,0)):=by rw [hw3];exact heap_new_at hq11
 have HCELL:=Lib.hid (show ∀ wx,Keeps [] w3 wx→wx.rangeAt q7 0 C∧wx.cell? ⟨q9,1,none⟩=some (.int .i64 wr)∧wx.cell? ⟨q9,2,none⟩=some (.int .i64 ww)∧wx.cell? ⟨q11,1,none⟩=some (.int .i64 wr)∧wx.cell? ⟨q11,2,none⟩=some (.int .i64 ww) from fun wx hk=>by
  have hkx:=hk13.trans (G:=[]) hk (by simp)
  have e7:=(hkx.block q7 (lt_of_heap H7.out) (by simp)).trans H7.out
  have e9:=(hkx.block q9 (lt_of_heap H9.out) (by simp)).trans H9.out
  have e11:=(hk.block q11 (lt_of_heap h11) (by simp)).trans h11
  refine ⟨rangeAt_all e7,?_,?_,?_,?_⟩
  ·rw [cell_of_row wx q9 _ _ _ _ e9];rfl
  ·rw [cell_of_row wx q9 _ _ _ _ e9];rfl
  ·rw [cell_of_row wx q11 _ _ _ _ e11];rfl
  ·rw [cell_of_row wx q11 _ _ _ _ e11];rfl)
 have HON3:=Lib.hid (HON.out.keeps hk13 (by simp) (by simp))
 have HK3:=Lib.hid (HK1.out.trans (G:=[]) hk13 (by simp))
 have hq:=fun w=>sup_same S.f.sup w
 rw [show supV S.f.sup=.agg C.toArray by rw [HC.out];rfl] at hq
 have hsup:Calls Tryz.prog 9 #[.pointer (some ⟨s,0,none⟩)] w3.drew fun e w'=>e=.returned (.agg C.toArray)∧Keeps [] w3.drew w':=by
  obtain ⟨_,⟨bf,c,bm,sv,hs,rfl⟩,_⟩:=HON3.out.keeps (Keeps.refl [] w3).drew (by simp) (by simp)
  have:=sSuper_any hs
  rw [show supV S.f.sup=.agg C.toArray by rw [HC.out];rfl] at this
  exact this
 have HSUP:=Lib.hid hsup
 clear hw3 hq11 hk2 hk3 hk13 h11 hsup CC' H7 H9 HON HK1 HH hwr hlb1 HQ7 HQ9
 obtain ⟨p7,p91,p92,p111,p112⟩:=HCELL.out w3 (Keeps.refl _ _)
 refine wp_region_held_drew (S:=(fun wx=>wx.rangeAt q7 0 C∧wx.cell? ⟨q9,1,none⟩=some (.int .i64 wr)∧wx.cell? ⟨q9,2,none⟩=some (.int .i64 ww)∧wx.cell? ⟨q11,1,none⟩=some (.int .i64 wr)∧wx.cell? ⟨q11,2,none⟩=some (.int .i64 ww))) (by kernel_rfl) ?_ (fun hHeld=>?_)
 ·exact ⟨p7,p91,p92,p111,p112⟩
 refine tk 0 ?_
 refine tkb 2 rfl (yieldsIf_load_mid (by rfl) 42 (.tmp 7) rfl q7 0 rfl C _ (fun _ h=>h.1) Tryz.underlying42 rfl HSZ.out) ?_
 clear hHeld p7 p91 p92 p111 p112
 refine ac 1 fun K hK=>?_
 go_simp
 refine HSUP.out.mono ?_
 rintro e w4 ⟨rfl,hk4⟩
 replace hk4:=((Keeps.refl [] w3).drew).trans (G:=[]) hk4 (by simp)
 have HCELL4:=Lib.hid (fun wx hk=>HCELL.out wx (hk4.trans (G:=[]) hk (by simp)))
 have HON4:=Lib.hid (HON3.out.keeps hk4 (by simp) (by simp))
 have HK4:=Lib.hid (HK3.out.trans (G:=[]) hk4 (by simp))
 clear hk4 HON3 HK3 HCELL HSUP
 refine hK.out _ _ ?_ (fun hHeld=>?_)
 ·exact HCELL4.out _ (Keeps.refl _ _)
 clear hK K
 try simp only [zA,zB,zC,zD,zE,zF,zG,zH]
 refine tk 3 ?_
 refine tk 4 ?_
 refine tk 5 ?_
 have CS:Calls Tryz.prog 10 #[.pointer (some ⟨s,0,none⟩)] w4 fun e w'=>e=.returned (.int .i64 n)∧w4=w':=by
  obtain ⟨_,⟨bf,c,bm,sv,hs,rfl⟩,_⟩:=HON4.out
  have:=sStaged_any hs
  rw [← HN.out] at this
  exact this
 refine tk 7 ?_
 refine ac 6 fun K hK=>?_
 go_simp
 refine CS.mono ?_
 rintro e w5 ⟨rfl,rfl⟩
 clear CS
 refine hK.out _ _ ?_ (fun hHeld=>?_)
 ·exact HCELL4.out _ (Keeps.refl _ _)
 clear hK K
 try simp only [zA,zB,zC,zD,zE,zF,zG,zH]
 refine tk 8 ?_
 refine tk 9 ?_
 refine tk 10 ?_
 refine tk 11 ?_
 refine tk 12 ?_
 refine tk 13 ?_
 refine tk 14 ?_
 refine tk 15 ?_
 refine tk 16 ?_
 refine tk 17 ?_
 refine tk 18 ?_
 refine tk 19 ?_
 refine tk 20 ?_
 refine tk 21 ?_
 refine tk 22 ?_
 refine tk 23 ?_
 refine tk 24 ?_
 refine wpAnyH_done (by kernel_rfl) ?_ _
 go_wp2_with fail
 go_ret
 exact ⟨rfl,HK4.out⟩
open Go.RowKit
theorem StoreOn.stays {w w':World} {s b:Nat} {S:St} {d:D} {F G:List Nat} (h:StoreOn w s b S d F G) (hb:∀ k∈F++G,w'.heap[k]?=w.heap[k]?):StoreOn w' s b S d F G:=by
 obtain ⟨hd,⟨bf,c,bm,sv,hs,rfl⟩,hap⟩:=h
 exact ⟨DiskAt.keep hd (fun k hk=>hb k (List.mem_append.2 (.inl hk))),⟨bf,c,bm,sv,hs.keep (fun k hk=>hb k (List.mem_append.2 (.inr hk))),rfl⟩,hap⟩
def storeThing (s b:Nat) (S:St) (d:D) (F G:List Nat):Thing :=
 ⟨F++G,fun w=>StoreOn w s b S d F G,fun w w' h hb=>h.stays hb,fun w h k hk=>h.lt k (List.mem_append.1 hk)⟩
structure PgOwn (w:World) (q:Nat) (kv lv:Value) (L:List (Int × List UInt8)) (vs:List Value):Prop where
 root:w.heap[q]?=some (.cells #[kv,lv] 32 (0,0))
 kinds:w.ownsRow 0 3 1 kv L.length (L.map kindV)
 loads:w.ownsRow 0 36 1 lv L.length vs
 each:∀ (i:Nat) (v:Value) (p:Int × List UInt8),vs[i]?=some v→L[i]?=some p→OwnB w v p.2
def pgF (q:Nat) (kv lv:Value) (vs:List Value):List Nat:=q :: (kv.ownBlock.toList++(lv.ownBlock.toList++vs.flatMap fun v=>v.ownBlock.toList))
theorem mem_pgF {q:Nat} {kv lv:Value} {vs:List Value} {k:Nat}:k∈pgF q kv lv vs↔k=q∨kv.ownBlock=some k∨lv.ownBlock=some k∨∃ v∈vs,v.ownBlock=some k:=by
 simp [pgF]
theorem PgOwn.vlen {w:World} {q:Nat} {kv lv:Value} {L:List (Int × List UInt8)} {vs:List Value} (h:PgOwn w q kv lv L vs):vs.length=L.length:=by
 have:=h.loads.1
 omega
theorem PgOwn.stays {w w':World} {q:Nat} {kv lv:Value} {L:List (Int × List UInt8)} {vs:List Value} (h:PgOwn w q kv lv L vs) (hb:∀ k∈pgF q kv lv vs,w'.heap[k]?=w.heap[k]?):PgOwn w' q kv lv L vs :=
 ⟨(hb q (mem_pgF.2 (.inl rfl))).trans h.root,ownsRow_keep h.kinds (fun k hk=>hb k (mem_pgF.2 (.inr (.inl hk)))),ownsRow_keep h.loads (fun k hk=>hb k (mem_pgF.2 (.inr (.inr (.inl hk))))),
  fun i v p hv hp=>ownsRow_keep (h.each i v p hv hp) (fun k hk=>hb k (mem_pgF.2 (.inr (.inr (.inr ⟨v,List.mem_of_getElem? hv,hk⟩)))))⟩
theorem PgOwn.lt {w:World} {q:Nat} {kv lv:Value} {L:List (Int × List UInt8)} {vs:List Value} (h:PgOwn w q kv lv L vs):∀ k∈pgF q kv lv vs,k < w.heap.size:=by
 intro k hk
 rcases mem_pgF.1 hk with rfl | hk | hk | ⟨v,hv,hk⟩
 ·exact lt_of_heap h.root
 ·exact (World.ownsRow.lt h.kinds k hk).2
 ·exact (World.ownsRow.lt h.loads k hk).2
 ·obtain ⟨i,hi⟩:=List.mem_iff_getElem?.1 hv
  have h1:=(List.getElem?_eq_some_iff.1 hi).1
  have h2:i < L.length:=by rw [← h.vlen];exact h1
  exact (World.ownsRow.lt (h.each i v L[i] hi (List.getElem?_eq_getElem h2)) k hk).2
def pagesThing (q:Nat) (kv lv:Value) (L:List (Int × List UInt8)) (vs:List Value):Thing :=
 ⟨pgF q kv lv vs,fun w=>PgOwn w q kv lv L vs,fun w w' h hb=>h.stays hb,fun w h=>h.lt⟩
theorem slIn_own {w:World} {base:Nat} {e:TypeId} {v:Value} {n:Nat} {xs:List Value} {P:Nat→Prop} (h:w.ownsRow base e 1 v n xs) (hP:∀ k,v.ownBlock=some k→P k):SlIn w v xs P:=by
 have hl:=h.1
 rcases h.2 with ⟨rfl,rfl⟩ | ⟨g,cap,cur,rfl,hg,hh,h1,h2,h3,h4⟩
 ·exact .inl ⟨List.length_eq_zero_iff.1 (by omega),none,0,rfl,by simp [maxLen]⟩
 ·refine .inr ⟨g,0,cap,by rw [show n=xs.length by omega],by omega,h2,lt_of_heap hh,fun j u hj=>?_,hP g rfl⟩
  rw [Nat.zero_add,cell_of_row w g j _ _ _ hh]
  rw [← h4,List.getElem?_take] at hj
  split at hj
  ·simpa using hj
  ·cases hj
theorem PgOwn.pages {w:World} {q:Nat} {kv lv:Value} {L:List (Int × List UInt8)} {vs:List Value} (h:PgOwn w q kv lv L vs):PagesIn w kv lv L (fun k=>k∈pgF q kv lv vs) :=
 ⟨slIn_own h.kinds (fun k hk=>mem_pgF.2 (.inr (.inl hk))),vs,h.vlen,slIn_own h.loads (fun k hk=>mem_pgF.2 (.inr (.inr (.inl hk)))),fun i v p hv hp =>
  ⟨ownB_bytes (h.each i v p hv hp),fun k hk=>mem_pgF.2 (.inr (.inr (.inr ⟨v,List.mem_of_getElem? hv,elemBlock_own hk⟩)))⟩⟩
theorem PgOwn.cells {w:World} {q:Nat} {kv lv:Value} {L:List (Int × List UInt8)} {vs:List Value} (h:PgOwn w q kv lv L vs):w.cell? ⟨q,0,none⟩=some kv∧w.cell? ⟨q,1,none⟩=some lv :=
 ⟨by rw [cell_of_row w q _ _ _ _ h.root];rfl,by rw [cell_of_row w q _ _ _ _ h.root];rfl⟩
theorem step_appC {ops:Array Oper} {o:Oper} {a:Act} {w w0:World} {K:Act→World→Prop} {Q:Exit→Act→World→Prop} {E:Prop} (ts te:TypeId) (z:Value) (bytes:Nat) (hund:Tryz.prog.underlying ts=some (.slice te)) (hinfo:(Tryz.prog.info? te).map (fun i=>(i.zero,i.size,i.bytes))=some (some z,1,bytes)) (hz:z.cells.size=1) (hby:bytes≤32)
  (hgd:o.guard=none) (s x:Operand) (ho:o.op=.call { callee:=.builtin .append,args:=#[s,x],argTypes:=#[ts,ts] })
  (base:Nat) (v:Value) (n:Nat) (xs:List Value) (hs:a.eval s=v) (hown:w0.ownsRow base te 1 v n xs) (u:Value) (hu:u.oneCell'=true) (hx:a.eval x=.slice (some ⟨w0.heap.size,0,none⟩) 1 1) (hw:w=w0.alloc (.cells #[u] te (0,0))) (hb:n+1≤16777216) (hbase:base≤w0.heap.size)
  (h:∀ v' w',w'.ownsRow base te 1 v' (n+1) (xs++[u])→Keeps v.ownBlock.toList w0 w'→From w0 v.ownBlock.toList v'.ownBlock.toList→K (a.put o.dst v') w') :
  if Region.wanted o (yielded ops a.tmps)=true then Oper.wp Tryz.prog o a w K Q else E:=by
 subst hw
 obtain ⟨i0,hi0,hz0,hz1,hz2⟩:=info_parts hinfo
 have l2:∀ j u',[u][j]?=some u'→(w0.alloc (.cells #[u] te (0,0))).cell? ((⟨w0.heap.size,0,none⟩:Addr).add j)=some u':=World.news_of_block (cs:=#[u]) (t:=te) (fr:=(0,0)) (heap_new_at rfl)
 refine step_append_lies _ hgd s x ts ho base te i0 z 1 bytes hund hi0 hz0 hz1 hz2 hz (by omega) v n xs hs (hown.alloc _) ⟨w0.heap.size,0,none⟩ 1 1 [u] hx rfl l2 (by simpa using hu) (by omega) (by simp only [maxLen];omega) (Nat.le_trans (Nat.mul_le_mul (show n+1≤16777216 from hb) hby) (by omega)) (by simp;omega) (w0.heap.size+1) (by simp) ?_
 intro g cap w' h1 h2 h3 h4
 refine h _ w' h1 (((Keeps.refl _ _).alloc _).grown h2 (fun k hk=>.inl (by simp [hk]))) (fun k hk=>?_)
 simp only [Value.ownBlock,Option.toList_some,List.mem_singleton] at hk
 subst hk
 rcases h3 with h3 | h3
 ·exact .inl (by simp [h3])
 ·exact .inr (by omega)
open Go.RowKit
structure PgTwo (w:World) (q:Nat) (kv lv:Value) (KL LL:List (Int × List UInt8)) (vs:List Value):Prop where
 root:w.heap[q]?=some (.cells #[kv,lv] 32 (0,0))
 kinds:w.ownsRow 0 3 1 kv KL.length (KL.map kindV)
 loads:w.ownsRow 0 36 1 lv LL.length vs
 each:∀ (i:Nat) (v:Value) (p:Int × List UInt8),vs[i]?=some v→LL[i]?=some p→OwnB w v p.2
theorem PgTwo.vlen {w:World} {q:Nat} {kv lv:Value} {KL LL:List (Int × List UInt8)} {vs:List Value} (h:PgTwo w q kv lv KL LL vs):vs.length=LL.length:=by
 have:=h.loads.1
 omega
theorem PgTwo.stays {w w':World} {q:Nat} {kv lv:Value} {KL LL:List (Int × List UInt8)} {vs:List Value} (h:PgTwo w q kv lv KL LL vs) (hb:∀ k∈pgF q kv lv vs,w'.heap[k]?=w.heap[k]?):PgTwo w' q kv lv KL LL vs :=
 ⟨(hb q (mem_pgF.2 (.inl rfl))).trans h.root,ownsRow_keep h.kinds (fun k hk=>hb k (mem_pgF.2 (.inr (.inl hk)))),ownsRow_keep h.loads (fun k hk=>hb k (mem_pgF.2 (.inr (.inr (.inl hk))))),
  fun i v p hv hp=>ownsRow_keep (h.each i v p hv hp) (fun k hk=>hb k (mem_pgF.2 (.inr (.inr (.inr ⟨v,List.mem_of_getElem? hv,hk⟩)))))⟩
theorem PgTwo.load_at {w:World} {q:Nat} {kv lv:Value} {KL LL:List (Int × List UInt8)} {vs:List Value} (h:PgTwo w q kv lv KL LL vs) {v:Value} (hv:v∈vs):∃ p:Int × List UInt8,OwnB w v p.2:=by
 obtain ⟨i,hi⟩:=List.mem_iff_getElem?.1 hv
 have h1:=(List.getElem?_eq_some_iff.1 hi).1
 have h2:i < LL.length:=by rw [← h.vlen];exact h1
 exact ⟨_,h.each i v LL[i] hi (List.getElem?_eq_getElem h2)⟩
theorem PgTwo.lt {w:World} {q:Nat} {kv lv:Value} {KL LL:List (Int × List UInt8)} {vs:List Value} (h:PgTwo w q kv lv KL LL vs):∀ k∈pgF q kv lv vs,k < w.heap.size:=by
 intro k hk
 rcases mem_pgF.1 hk with rfl | hk | hk | ⟨v,hv,hk⟩
 ·exact lt_of_heap h.root
 ·exact (World.ownsRow.lt h.kinds k hk).2
 ·exact (World.ownsRow.lt h.loads k hk).2
 ·obtain ⟨p,hp⟩:=h.load_at hv
  exact (World.ownsRow.lt hp k hk).2
def pagesTwo (q:Nat) (kv lv:Value) (KL LL:List (Int × List UInt8)) (vs:List Value):Thing :=
 ⟨pgF q kv lv vs,fun w=>PgTwo w q kv lv KL LL vs,fun w w' h hb=>h.stays hb,fun w h=>h.lt⟩
theorem PgOwn.two {w:World} {q:Nat} {kv lv:Value} {L:List (Int × List UInt8)} {vs:List Value} (h:PgOwn w q kv lv L vs):PgTwo w q kv lv L L vs:=⟨h.root,h.kinds,h.loads,h.each⟩
theorem PgTwo.one {w:World} {q:Nat} {kv lv:Value} {L:List (Int × List UInt8)} {vs:List Value} (h:PgTwo w q kv lv L L vs):PgOwn w q kv lv L vs:=⟨h.root,h.kinds,h.loads,h.each⟩
theorem ty_apart {w:World} {k:Nat} {cs ds:Array Value} {t u:TypeId} (h1:w.heap[k]?=some (.cells cs t (0,0))) (h2:w.heap[k]?=some (.cells ds u (0,0))):t=u:=by
 rw [h1] at h2
 injection h2 with h2
 injection h2 with _ h3 _
theorem t_int_pages:¬ (3:TypeId)=32:=by decide
theorem t_int_bytes:¬ (3:TypeId)=36:=by decide
theorem t_int_u8:¬ (3:TypeId)=5:=by decide
theorem t_bytes_pages:¬ (36:TypeId)=32:=by decide
theorem t_bytes_u8:¬ (36:TypeId)=5:=by decide
theorem t_u8_pages:¬ (5:TypeId)=32:=by decide
theorem PgTwo.addKind {w w1:World} {q:Nat} {kv kv' lv:Value} {KL LL:List (Int × List UInt8)} {vs:List Value} {x:Int × List UInt8} (h:PgTwo w q kv lv KL LL vs) (hown:w1.ownsRow 0 3 1 kv' (KL.length+1) (KL.map kindV++[kindV x])) (hk:Keeps kv.ownBlock.toList w w1) (hf:From w kv.ownBlock.toList kv'.ownBlock.toList) :
  PgTwo (w1.setCell ⟨q,0,none⟩ kv') q kv' lv (KL++[x]) LL vs∧Keeps (pgF q kv lv vs) w (w1.setCell ⟨q,0,none⟩ kv')∧From w (pgF q kv lv vs) (pgF q kv' lv vs):=by
 have hq1:kv.ownBlock≠some q:=fun e=>by
  obtain ⟨c,hc⟩:=own_type h.kinds e
  exact t_int_pages (ty_apart hc h.root)
 have hr1:w1.heap[q]?=some (.cells #[kv,lv] 32 (0,0)):=(hk.block q (lt_of_heap h.root) (by simpa using hq1)).trans h.root
 have hq2:kv'.ownBlock≠some q:=fun e=>by
  obtain ⟨c,hc⟩:=own_type hown e
  exact t_int_pages (ty_apart hc hr1)
 have hoth:∀ k,k≠q→(w1.setCell ⟨q,0,none⟩ kv').heap[k]?=w1.heap[k]?:=fun k hk=>Below.heap_setCell w1 _ _ k hk
 have hsame:∀ (k:Nat) (c:Array Value) (t:TypeId),t≠3→t≠32→w.heap[k]?=some (Obj.cells c t (0,0))→(w1.setCell ⟨q,0,none⟩ kv').heap[k]?=w.heap[k]?:=fun k c t n1 n2 hc=>by
  rw [hoth k (fun e=>n2 (by subst e;exact ty_apart hc h.root)),hk.block k (lt_of_heap hc) (fun hm=>by
   simp only [Option.mem_toList] at hm
   obtain ⟨c2,hc2⟩:=own_type h.kinds hm
   exact n1 (ty_apart hc hc2))]
 have hkk:Keeps (pgF q kv lv vs) w w1:=hk.mono (fun k hk=>.inl (mem_pgF.2 (.inr (.inl (by simpa using hk)))))
 have hkset:Keeps (pgF q kv lv vs) w (w1.setCell ⟨q,0,none⟩ kv'):=hkk.setCell (.inl (mem_pgF.2 (.inl rfl))) _
 refine ⟨⟨heap_setCell_same w1 q 0 _ _ _ hr1,?_,ownsRow_keep h.loads (fun k hk=>?_),fun i v p hv hp=>ownsRow_keep (h.each i v p hv hp) (fun k hk=>?_)⟩,hkset,fun k hk=>?_⟩
 ·rw [List.length_append,List.map_append]
  exact ownsRow_keep hown (fun k hk=>hoth k (fun e=>hq2 (e ▸ hk)))
 ·obtain ⟨c,hc⟩:=own_type h.loads hk
  exact hsame k c _ (fun e=>t_int_bytes e.symm) t_bytes_pages hc
 ·obtain ⟨c,hc⟩:=own_type (h.each i v p hv hp) hk
  exact hsame k c _ (fun e=>t_int_u8 e.symm) t_u8_pages hc
 ·rcases mem_pgF.1 hk with rfl | hk | hk | hk
  ·exact .inl (mem_pgF.2 (.inl rfl))
  ·rcases hf k (by simpa using hk) with h1 | h1
   ·exact .inl (mem_pgF.2 (.inr (.inl (by simpa using h1))))
   ·exact .inr h1
  ·exact .inl (mem_pgF.2 (.inr (.inr (.inl hk))))
  ·exact .inl (mem_pgF.2 (.inr (.inr (.inr hk))))
theorem PgTwo.addLoad {w wc w1:World} {q:Nat} {kv lv lv' v:Value} {KL LL:List (Int × List UInt8)} {vs:List Value} {x:Int × List UInt8} (h0:PgTwo w q kv lv KL LL vs) (hc0:Keeps [] w wc) (hv:OwnB wc v x.2) (hvn:∀ k,v.ownBlock=some k→w.heap.size≤k)
  (hown:w1.ownsRow 0 36 1 lv' (LL.length+1) (vs++[v])) (hk:Keeps lv.ownBlock.toList wc w1) (hf:From wc lv.ownBlock.toList lv'.ownBlock.toList) :
  PgTwo (w1.setCell ⟨q,1,none⟩ lv') q kv lv' KL (LL++[x]) (vs++[v])∧Keeps (pgF q kv lv vs) w (w1.setCell ⟨q,1,none⟩ lv')∧From w (pgF q kv lv vs) (pgF q kv lv' (vs++[v])):=by
 have h:PgTwo wc q kv lv KL LL vs:=h0.stays (fun k hk=>hc0.block k (h0.lt k hk) (by simp))
 have hq1:lv.ownBlock≠some q:=fun e=>by
  obtain ⟨c,hc⟩:=own_type h.loads e
  exact t_bytes_pages (ty_apart hc h.root)
 have hr1:w1.heap[q]?=some (.cells #[kv,lv] 32 (0,0)):=(hk.block q (lt_of_heap h.root) (by simpa using hq1)).trans h.root
 have hq2:lv'.ownBlock≠some q:=fun e=>by
  obtain ⟨c,hc⟩:=own_type hown e
  exact t_bytes_pages (ty_apart hc hr1)
 have hoth:∀ k,k≠q→(w1.setCell ⟨q,1,none⟩ lv').heap[k]?=w1.heap[k]?:=fun k hk=>Below.heap_setCell w1 _ _ k hk
 have hsame:∀ (k:Nat) (c:Array Value) (t:TypeId),t≠36→t≠32→wc.heap[k]?=some (Obj.cells c t (0,0))→(w1.setCell ⟨q,1,none⟩ lv').heap[k]?=wc.heap[k]?:=fun k c t n1 n2 hc=>by
  rw [hoth k (fun e=>n2 (by subst e;exact ty_apart hc h.root)),hk.block k (lt_of_heap hc) (fun hm=>by
   simp only [Option.mem_toList] at hm
   obtain ⟨c2,hc2⟩:=own_type h.loads hm
   exact n1 (ty_apart hc hc2))]
 have hkk:Keeps (pgF q kv lv vs) wc w1:=hk.mono (fun k hk=>.inl (mem_pgF.2 (.inr (.inr (.inl (by simpa using hk))))))
 have hkw:Keeps (pgF q kv lv vs) w w1:=(hc0.mono (by simp)).trans hkk (fun k hk=>.inl hk)
 have hkset:Keeps (pgF q kv lv vs) w (w1.setCell ⟨q,1,none⟩ lv'):=hkw.setCell (.inl (mem_pgF.2 (.inl rfl))) _
 refine ⟨⟨heap_setCell_same w1 q 1 _ _ _ hr1,ownsRow_keep h.kinds (fun k hk=>?_),?_,fun i u p hu hp=>?_⟩,hkset,fun k hk=>?_⟩
 ·obtain ⟨c,hc⟩:=own_type h.kinds hk
  exact hsame k c _ t_int_bytes t_int_pages hc
 ·rw [List.length_append]
  exact ownsRow_keep hown (fun k hk=>hoth k (fun e=>hq2 (e ▸ hk)))
 ·have hbytes:∀ (u:Value) (l:List UInt8),OwnB wc u l→OwnB (w1.setCell ⟨q,1,none⟩ lv') u l:=fun u l ho=>ownsRow_keep ho (fun k hk=>by
   obtain ⟨c,hc⟩:=own_type ho hk
   exact hsame k c _ (fun e=>t_bytes_u8 e.symm) t_u8_pages hc)
  have hl:=h.vlen
  rcases Nat.lt_or_ge i vs.length with hi | hi
  ·rw [List.getElem?_append_left hi] at hu
   rw [List.getElem?_append_left (by omega)] at hp
   exact hbytes _ _ (h.each i u p hu hp)
  ·rw [List.getElem?_append_right hi] at hu
   rw [List.getElem?_append_right (by omega)] at hp
   have e0:i - vs.length=0:=by have:=(List.getElem?_eq_some_iff.1 hu).1;simp at this;omega
   rw [e0] at hu
   rw [show i - LL.length=0 by omega] at hp
   simp only [List.getElem?_cons_zero,Option.some.injEq] at hu hp
   subst hu hp
   exact hbytes _ _ hv
 ·rcases mem_pgF.1 hk with rfl | hk | hk | ⟨u,hu,hku⟩
  ·exact .inl (mem_pgF.2 (.inl rfl))
  ·exact .inl (mem_pgF.2 (.inr (.inl hk)))
  ·rcases hf k (by simpa using hk) with h1 | h1
   ·exact .inl (mem_pgF.2 (.inr (.inr (.inl (by simpa using h1)))))
   ·exact .inr (Nat.le_trans hc0.size h1)
  ·rcases List.mem_append.1 hu with hu | hu
   ·exact .inl (mem_pgF.2 (.inr (.inr (.inr ⟨u,hu,hku⟩))))
   ·simp only [List.mem_singleton] at hu
    subst hu
    exact .inr (hvn k hku)
theorem info_int':(Tryz.prog.info? 3).map (fun i=>(i.zero,i.size,i.bytes))=some (some (.int .i64 0),1,8):=by kernel_rfl
theorem info_bytes':(Tryz.prog.info? 36).map (fun i=>(i.zero,i.size,i.bytes))=some (some (.slice none 0 0),1,24):=by kernel_rfl
theorem run_buildSlice_i1 (w:World) (x:Int):(Instr.buildSlice 29 1 #[(0,.int .i64 x)]).run Tryz.prog w=.ok (.slice (some ⟨w.heap.size,0,none⟩) 1 1) (w.alloc (.cells #[.int .i64 x] 3 (0,0))):=by
 obtain ⟨i,hi,h1,h2,h3⟩:=info_parts info_int'
 refine run_buildSlice w _ _ _ _ _ i (.int .i64 0) Tryz.underlying29 hi h1 (by rw [h2];omega) (by rw [h2];omega) ?_
 rw [h2]
 kernel_rfl
theorem run_buildSlice_s1 (w:World) (a:Option Addr) (n c:Nat):(Instr.buildSlice 30 1 #[(0,.slice a n c)]).run Tryz.prog w=.ok (.slice (some ⟨w.heap.size,0,none⟩) 1 1) (w.alloc (.cells #[.slice a n c] 36 (0,0))):=by
 obtain ⟨i,hi,h1,h2,h3⟩:=info_parts info_bytes'
 refine run_buildSlice w _ _ _ _ _ i (.slice none 0 0) Tryz.underlying30 hi h1 (by rw [h2];omega) (by rw [h2];omega) ?_
 rw [h2]
 kernel_rfl
def objThing (q:Nat) (cs:Array Value) (t:TypeId):Thing :=
 ⟨[q],fun w=>w.heap[q]?=some (.cells cs t (0,0)),fun w w' h hb=>(hb q (by simp)).trans h,fun w h k hk=>by simp at hk;subst hk;exact lt_of_heap h⟩
theorem At.var {w0 w:World} {L:List Thing} (h:At w0 w L) (cs:Array Value) (t:TypeId) {q:Nat} (hq:q=w.heap.size):At w0 (w.alloc (.cells cs t (0,0))) (objThing q cs t :: L) :=
 h.add ((Keeps.refl _ _).alloc _) (heap_new_at hq) (fun k hk=>.inr (by simp [objThing] at hk;omega))
theorem PfNew.form {w0 w:World} {v:Value} {p:Pf} (h:PfNew w0 w v p):∃ C:List Value,v=.agg C.toArray∧C.length=35∧∀ u∈C,u.oneCell'=true:=by
 obtain ⟨vv,sv,e,h1,h2,h3,_⟩:=h
 obtain ⟨a,n,e1⟩:=own_form h1
 have e2:∃ a n c,sv=.slice a n c:=by
  rcases h2 with ⟨_,a,c,e,_⟩ | ⟨g,o,cap,e,_⟩
  ·exact ⟨_,_,_,e⟩
  ·exact ⟨_,_,_,e⟩
 obtain ⟨a2,n2,c2,e2⟩:=e2
 subst e1 e2
 exact ⟨_,e,pf_length h3.1 _ _,pf_ones⟩
theorem t_u8_proof:¬ (5:TypeId)=57:=by decide
theorem PfNew.store {w0 w w':World} {v:Value} {p:Pf} {q:Nat} {Y:Array Value} (h:PfNew w0 w v p) (hq:q < w0.heap.size) (hY:w.heap[q]?=some (.cells Y 57 (0,0))) (hk:∀ k,k≠q→k < w.heap.size→w'.heap[k]?=w.heap[k]?) (hs:w.heap.size≤w'.heap.size):PfNew w0 w' v p:=by
 obtain ⟨vv,sv,e,h1,h2,h3,h4⟩:=h
 refine ⟨vv,sv,e,ownsRow_keep h1 (fun k hkv=>?_),?_,h3,h4⟩
 ·obtain ⟨c,hc⟩:=own_type h1 hkv
  exact hk k (fun e=>t_u8_proof (ty_apart hc (e ▸ hY))) (lt_of_heap hc)
 ·rcases h2 with h2 | ⟨g,o,cap,rfl,a1,a2,a3,a4⟩
  ·exact .inl h2
  ·have:=h4 g rfl
   exact .inr ⟨g,o,cap,rfl,a1,a2,Nat.lt_of_lt_of_le a3 hs,rangeAt_of_heap a4 (hk g (by omega) a3)⟩
end Go.Proofs.YtakaocenbempmaaGreatDoor
