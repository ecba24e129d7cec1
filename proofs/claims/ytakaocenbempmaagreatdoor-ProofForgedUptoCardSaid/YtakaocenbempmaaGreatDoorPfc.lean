/-
  Lemmas of a claim, bundle c: XQG XQH XQK XQL XQI.
-/
import Derived.Test.YtakaocenbempmaaGreatDoorPfb
import Derived.Test.YtakaocenbempmaaGreatDoorPfH
import Derived.Deep.CutBlock
import Derived.Deep.DeepCutAuto
set_option linter.unusedVariables false
set_option linter.unusedSimpArgs false
namespace Go.Proofs.YtakaocenbempmaaGreatDoor
open Go.RowKit
theorem pvBits_low (S E:List (List UInt8)):∀ j q,(pvBits S E j).getD q 0=0∨q < j / 8∨q=j / 8∧((pvBits S E j).getD q 0).toNat < 2 ^ (j % 8)
 | 0,q=>by
  left
  rw [pvBits,List.getD_eq_getElem?_getD,List.getElem?_replicate]
  split <;> rfl
 | j+1,q=>by
  rw [pvBits]
  have ih:=pvBits_low S E j q
  have hpos:∀ r,0 < 2 ^ r:=fun r=>Nat.pow_pos (by omega)
  have hlift:(pvBits S E j).getD q 0=0∨q < (j+1) / 8∨q=(j+1) / 8∧((pvBits S E j).getD q 0).toNat < 2 ^ ((j+1) % 8):=by
   rcases ih with h | h | ⟨h1,h2⟩
   ·exact .inl h
   ·right;left;omega
   ·by_cases h7:j % 8=7
    ·right;left;omega
    ·right;right
     refine ⟨by omega,Nat.lt_of_lt_of_le h2 (Nat.pow_le_pow_right (by omega) (by omega))⟩
  split
  ·exact hlift
  ·by_cases hq:q=j / 8
   ·subst hq
    by_cases h7:j % 8=7
    ·right;left;omega
    ·right;right
     refine ⟨by omega,?_⟩
     have hlow:((pvBits S E j).getD (j / 8) 0).toNat < 2 ^ (j % 8):=by
      rcases ih with h | h | ⟨h1,h2⟩
      ·rw [h];exact hpos _
      ·omega
      ·exact h2
     by_cases hl:j / 8 < 32
     ·rw [List.getD_eq_getElem?_getD,List.getElem?_set,if_pos rfl,if_pos (by rw [pvBits_length];exact hl)]
      show (UInt8.ofNat _ ||| UInt8.ofNat _).toNat < _
      rw [or_pow_byte (UInt8.toNat_lt _) (by omega),add_pow_byte (by omega) hlow,show (j+1) % 8=j % 8+1 by omega,Nat.pow_succ]
      omega
     ·rw [List.getD_eq_getElem?_getD,List.getElem?_set,if_pos rfl,if_neg (by rw [pvBits_length];exact hl)]
      exact hpos _
   ·have e:((pvBits S E j).set (j / 8) (UInt8.ofNat ((pvBits S E j).getD (j / 8) 0).toNat ||| UInt8.ofNat (2 ^ (j % 8)))).getD q 0=(pvBits S E j).getD q 0:=by
     rw [List.getD_eq_getElem?_getD,List.getElem?_set,if_neg (fun e=>hq e.symm),← List.getD_eq_getElem?_getD]
    rw [e]
    exact hlift
theorem pvBits_lowAt (S E:List (List UInt8)) (j:Nat):((pvBits S E j).getD (j / 8) 0).toNat < 2 ^ (j % 8):=by
 rcases pvBits_low S E j (j / 8) with h | h | ⟨_,h⟩
 ·rw [h];exact Nat.pow_pos (by omega)
 ·omega
 ·exact h
theorem pvBits_set (S E:List (List UInt8)) (j:Nat):pvBits S E (j+1)=setBits (pvBits S E j) j (S.getD j []) (E.getD j []):=by rw [pvBits,setBits]
theorem pvOnes_set (S E:List (List UInt8)) (j:Nat):pvOnes S E (j+1)=setOnes (pvOnes S E j) (S.getD j []) (E.getD j []):=by rw [pvOnes,setOnes]
theorem pvBits_congr {S S2 E:List (List UInt8)}:∀ n,(∀ j,j < n→S.getD j []=S2.getD j [])→pvBits S E n=pvBits S2 E n
 | 0,_=>rfl
 | n+1,h=>by rw [pvBits_set,pvBits_set,pvBits_congr n (fun j hj=>h j (by omega)),h n (by omega)]
theorem pvOnes_congr {S S2 E:List (List UInt8)}:∀ n,(∀ j,j < n→S.getD j []=S2.getD j [])→pvOnes S E n=pvOnes S2 E n
 | 0,_=>rfl
 | n+1,h=>by rw [pvOnes_set,pvOnes_set,pvOnes_congr n (fun j hj=>h j (by omega)),h n (by omega)]
def besAt (nd:Nde) (key:List UInt8) (k i:Nat):List UInt8:=if dOther nd (bitK key i)=0 then emptyD k (255 - i) else dSum nd (bitK key i)
def besL (ns:List Nde) (key:List UInt8) (k:Nat):Nat→List (List UInt8)
 | 0=>[]
 | i+1=>besL ns key k i++[besAt (ns.getD i nd0) key k i]
theorem besL_length (ns:List Nde) (key:List UInt8) (k:Nat):∀ n,(besL ns key k n).length=n
 | 0=>rfl
 | n+1=>by rw [besL,List.length_append,besL_length ns key k n];rfl
theorem besL_get (ns:List Nde) (key:List UInt8) (k:Nat):∀ n i,i < n→(besL ns key k n)[i]?=some (besAt (ns.getD i nd0) key k i)
 | 0,i,h=>by omega
 | n+1,i,h=>by
  rw [besL]
  by_cases e:i=n
  ·subst e
   rw [List.getElem?_append_right (by rw [besL_length];exact Nat.le_refl _),besL_length,Nat.sub_self]
   rfl
  ·rw [List.getElem?_append_left (by rw [besL_length];omega)]
   exact besL_get ns key k n i (by omega)
structure OverEnd where
 m:Nat
 found:Bool
 val:List UInt8
 la:Int
 ls:List UInt8
def EndOk (ns:List Nde) (key:List UInt8) (k:Nat) (o:OverEnd):Prop :=
 (o.m=ns.length∧(∀ nd∈ns,nd.kind≠1)∧o.found=false∧o.val=[]∧o.la=-1) ∨
 ∃ nd,ns[o.m]?=some nd∧nd.kind=1∧nd.key.length=32∧ns.length=o.m+1 ∧
  ((nd.key=key∧o.found=true∧o.val=nd.val∧o.la=-1) ∨
   (nd.key≠key∧o.found=false∧o.val=[]∧o.la=((255 - commonK nd.key key:Nat):Int)∧o.ls=climbD k nd.key 0 (leafD k nd.key nd.val) (255 - commonK nd.key key)))
def overAt (ns:List Nde) (key:List UInt8) (k:Nat) (o:OverEnd) (j:Nat):List UInt8 :=
 if (j:Int)=o.la then o.ls else if 255 - j < o.m then besAt (ns.getD (255 - j) nd0) key k (255 - j) else emptyD k j
def overT (ns:List Nde) (key:List UInt8) (k:Nat) (o:OverEnd):List (List UInt8):=(List.range 256).map (overAt ns key k o)
theorem overT_getD (ns:List Nde) (key:List UInt8) (k:Nat) (o:OverEnd) {j:Nat} (hj:j < 256):(overT ns key k o).getD j []=overAt ns key k o j:=by
 unfold overT
 rw [List.getD_eq_getElem?_getD,List.getElem?_map,List.getElem?_range hj]
 rfl
theorem emptiesL_getD (k:Nat) {j n:Nat} (hj:j < n):(emptiesL k n).getD j []=emptyD k j:=by
 unfold emptiesL
 rw [List.getD_eq_getElem?_getD,List.getElem?_map,List.getElem?_range hj]
 rfl
def overPf (ns:List Nde) (key:List UInt8) (k:Nat) (o:OverEnd):Pf:=⟨o.found,o.val,pvBits (overT ns key k o) (emptiesL k 256) 256,pvOnes (overT ns key k o) (emptiesL k 256) 256⟩
open Go.RowKit
theorem pathL_ok {L:List (Int × List UInt8)} {key:List UInt8}:∀ {f:Nat} {page above stated:Int} {n:Nat} {ns:List Nde},pathL L key f page above stated n=some ns→∀ (i:Nat) (nd:Nde),ns[i]?=some nd →
  (∃ k v,nd=leafN k v∧k.length=32∧v.length≤128∧n+i≤commonK k key∧ns.length=i+1)∨∃ lp lc ls rp rc rs,nd=branchN lp lc ls rp rc rs∧branchOk lp lc ls rp rc rs=true∧ls.length=32∧rs.length=32∧n+i < 256
 | 0,_,_,_,_,_,h,_,_,_=>by simp [pathL] at h
 | f+1,page,above,stated,n,ns,h,i,nd,hi=>by
  rw [pathL] at h
  split at h
  ·cases h
   simp at hi
  ·split at h
   ·cases h
   ·rename_i nd' hs
    have hc:=(standsL_cases hs).2
    split at h
    ·rename_i hk
     cases h
     cases i with
     | zero =>
      simp at hi
      subst hi
      rcases hc with ⟨k,v,rfl,h1,h2,h3⟩ | ⟨lp,lc,ls,rp,rc,rs,rfl,_⟩
      ·exact .inl ⟨k,v,rfl,h1,h2,h3,rfl⟩
      ·exact absurd hk (by show ¬ (2:Int)=1;decide)
     | succ i=>simp at hi
    ·rename_i hk
     obtain ⟨ns',hns,rfl⟩:=Option.map_eq_some_iff.1 h
     cases i with
     | zero =>
      simp at hi
      subst hi
      rcases hc with ⟨k,v,rfl,_⟩ | ⟨lp,lc,ls,rp,rc,rs,rfl,h1,h2,h3,h4⟩
      ·exact absurd rfl hk
      ·exact .inr ⟨_,_,_,_,_,_,rfl,h1,h2,h3,h4⟩
     | succ i =>
      simp at hi
      rcases pathL_ok hns i nd hi with ⟨k,v,h1,h2,h3,h4,h5⟩ | ⟨lp,lc,ls,rp,rc,rs,h1,h2,h3,h4,h5⟩
      ·exact .inl ⟨k,v,h1,h2,h3,by omega,by simp [h5]⟩
      ·exact .inr ⟨_,_,_,_,_,_,h1,h2,h3,h4,by omega⟩
theorem path_at {ps:List (Nde × Value)} (hok:∀ p∈ps,p.1.ok) {i:Nat} {p:Nde × Value} (hi:ps[i]?=some p):∃ xs zs,pathCells ps=xs++nodeC p.1 p.2++zs∧xs.length=i * 102:=by
 obtain ⟨hl,he⟩:=List.getElem?_eq_some_iff.1 hi
 have e:ps=ps.take i++p :: ps.drop (i+1):=by rw [← he];simp
 have e2:=congrArg pathCells e
 simp only [pathCells,List.flatMap_append,List.flatMap_cons] at e2
 refine ⟨pathCells (ps.take i),pathCells (ps.drop (i+1)),by unfold pathCells;rw [List.append_assoc];exact e2,?_⟩
 have:∀ r:List (Nde × Value),(∀ p∈r,p.1.ok)→(pathCells r).length=r.length * 102:=by
  intro r
  induction r with
  | nil=>intro _;rfl
  | cons x r ih =>
   intro h
   have h1:=nodeC_length (h x (by simp)) x.2
   have h2:=ih (fun p hp=>h p (by simp [hp]))
   simp only [pathCells,List.flatMap_cons,List.length_append] at h2 ⊢
   rw [h1,h2,List.length_cons]
   omega
 rw [this _ (fun p hp=>hok p (List.mem_of_mem_take hp)),List.length_take]
 congr 1
 omega
theorem own_range {w:World} {base:Nat} {e:TypeId} {size:Nat} {v:Value} {n:Nat} {xs:List Value} (h:w.ownsRow base e size v n xs) (hn:0 < n):∃ g c,v=.slice (some ⟨g,0,none⟩) n c∧g < w.heap.size∧base≤g∧w.rangeAt g 0 xs:=by
 rcases h.2 with ⟨_,h0⟩ | ⟨g,cap,cur,rfl,hg,hh,h1,h2,h3,h4⟩
 ·omega
 ·refine ⟨g,cap,rfl,lt_of_heap hh,hg,fun j u hj=>?_⟩
  rw [Nat.zero_add,cell_of_row w g j _ _ _ hh]
  rw [← h4,List.getElem?_take] at hj
  split at hj
  ·simpa using hj
  ·cases hj
open Go.RowKit
def entL (kept:List Ent):List (Int × List UInt8):=kept.map fun e=>(e.kind,e.load)
theorem nodeAt_stands (e:Ent) (depth:Nat) (stated:Int) (key:List UInt8) (hd:depth≤256):nodeAtL e depth stated key=standsOf stated key depth (decodeL e.kind e.load):=by
 unfold nodeAtL
 cases hdec:decodeL e.kind e.load with
 | none=>rfl
 | some nd =>
  simp only [standsOf]
  rcases decodeL_cases hdec with ⟨k,v,rfl,hk,hv⟩ | ⟨lp,lc,ls,rp,rc,rs,rfl,hb,h1,h2,hsum,_,_⟩
  ·have hkind:(leafN k v).kind=1:=rfl
   have hkeys:keysN (leafN k v)=1:=rfl
   rw [if_pos hkind,hkeys,if_pos hkind]
   by_cases hc:commonK (leafN k v).key key < depth
   ·rw [if_pos hc,if_neg (show ¬ depth≤commonK (leafN k v).key key by omega)]
    split <;> rfl
   ·rw [if_neg hc,if_pos (show depth≤commonK (leafN k v).key key by omega)]
    by_cases hs:0≤stated∧stated≠1
    ·rw [if_pos hs,if_pos ⟨hs.1,fun h=>hs.2 h.symm⟩]
    ·rw [if_neg hs,if_neg (fun h=>hs ⟨h.1,fun e=>h.2 e.symm⟩)]
  ·have hkind:¬ (branchN lp lc ls rp rc rs).kind=1:=by show ¬ (2:Int)=1;decide
   have hkeys:keysN (branchN lp lc ls rp rc rs)=(branchN lp lc ls rp rc rs).lc+(branchN lp lc ls rp rc rs).rc:=by unfold keysN;rw [if_neg hkind]
   rw [if_neg hkind,hkeys,if_neg hkind]
   by_cases hc:depth=256
   ·rw [if_pos hc,if_neg (show ¬ depth < 256 by omega)]
    split <;> rfl
   ·rw [if_neg hc,if_pos (show depth < 256 by omega)]
    by_cases hs:0≤stated∧stated≠(branchN lp lc ls rp rc rs).lc+(branchN lp lc ls rp rc rs).rc
    ·rw [if_pos hs,if_pos ⟨hs.1,fun h=>hs.2 h.symm⟩]
    ·rw [if_neg hs,if_neg (fun h=>hs ⟨h.1,fun e=>h.2 e.symm⟩)]
theorem getD_setL (l:List (List UInt8)) (i j:Nat) (x:List UInt8) (hi:i < l.length):(l.set i x).getD j []=if j=i then x else l.getD j []:=by
 simp only [List.getD_eq_getElem?_getD,List.getElem?_set]
 by_cases h:i=j
 ·subst h;simp [hi]
 ·rw [if_neg h,if_neg (fun e=>h e.symm)]
theorem dSums_getD (S:List (List UInt8)) (nd:Nde) (depth b j:Nat) (hS:S.length=256) (hd:depth < 256):(dSums S nd depth b).length=256∧(dSums S nd depth b).getD j []=if j=255 - depth∧dOther nd b≠0 then dSum nd b else S.getD j []:=by
 unfold dSums
 by_cases h:dOther nd b=0
 ·rw [if_pos h,if_neg (fun e=>e.2 h)]
  exact ⟨hS,rfl⟩
 ·rw [if_neg h,getD_setL _ _ _ _ (by omega),List.length_set]
  refine ⟨hS,?_⟩
  by_cases e:j=255 - depth
  ·rw [if_pos e,if_pos ⟨e,h⟩]
  ·rw [if_neg e,if_neg (fun h=>e h.1)]
def downAt (ns:List Nde) (key:List UInt8) (depth:Nat) (S:List (List UInt8)) (j:Nat):List UInt8 :=
 if depth≤255 - j then
  match ns[255 - j - depth]? with
  | some nd=>if nd.kind=1 then S.getD j [] else if dOther nd (bitK key (255 - j))=0 then S.getD j [] else dSum nd (bitK key (255 - j))
  | none=>S.getD j []
 else S.getD j []
def endR (ns:List Nde):DR:=match ns.getLast? with
 | some nd=>if nd.kind=1 then .leaf nd else .none
 | none=>.none
theorem down_path (kept:List Ent) (key:List UInt8):∀ (f:Nat) (page above stated:Int) (depth:Nat) (S:List (List UInt8)),(page=0∨2≤page)→(page≠0→page < above)→depth≤256→S.length=256 →
  (pathL (entL kept) key f page above stated depth=none→(downL kept 2 key f page stated depth S).2=.err) ∧
  (∀ ns,pathL (entL kept) key f page above stated depth=some ns→(∀ j,j < 256→(downL kept 2 key f page stated depth S).1.getD j []=downAt ns key depth S j)∧(downL kept 2 key f page stated depth S).1.length=256∧(downL kept 2 key f page stated depth S).2=endR ns)
 | 0,page,above,stated,depth,S,hp,ha,hd,hS=>⟨fun _=>rfl,fun ns h=>by simp [pathL] at h⟩
 | f+1,page,above,stated,depth,S,hp,ha,hd,hS=>by
  rw [pathL,downL]
  by_cases h0:page=0
  ·rw [if_pos h0,if_pos h0]
   refine ⟨fun h=>(by cases h),fun ns h=>?_⟩
   cases h
   refine ⟨fun j hj=>?_,hS,rfl⟩
   simp [downAt]
  ·rw [if_neg h0,if_neg h0]
   have hab:=ha h0
   have h2:2≤page:=by rcases hp with h | h;exact absurd h h0;exact h
   cases hk:kept[(page - 2).toNat]? with
   | none =>
    have hlen:kept.length≤(page - 2).toNat:=by simpa using hk
    have hst:standsL (entL kept) page above stated key depth=none:=by
     unfold standsL
     rw [if_pos (by simp only [entL,List.length_map];omega)]
    rw [hst]
    refine ⟨fun _=>rfl,fun ns h=>(by cases h)⟩
   | some e =>
    have hlen:(page - 2).toNat < kept.length:=(List.getElem?_eq_some_iff.1 hk).1
    have hst:standsL (entL kept) page above stated key depth=nodeAtL e depth stated key:=by
     unfold standsL
     rw [if_neg (by simp only [entL,List.length_map];omega),nodeAt_stands _ _ _ _ hd]
     unfold entL
     rw [List.getElem?_map,hk]
     rfl
    rw [hst]
    dsimp only
    cases hn:nodeAtL e depth stated key with
    | none=>exact ⟨fun _=>rfl,fun ns h=>(by cases h)⟩
    | some nd =>
     dsimp only
     by_cases hkd:nd.kind=1
     ·rw [if_pos hkd,if_pos hkd]
      refine ⟨fun h=>(by cases h),fun ns h=>?_⟩
      cases h
      refine ⟨fun j hj=>?_,hS,?_⟩
      ·unfold downAt
       by_cases hdj:depth≤255 - j
       ·rw [if_pos hdj]
        cases hi:255 - j - depth with
        | zero=>simp [hkd]
        | succ i=>simp
       ·rw [if_neg hdj]
      ·simp [endR,hkd]
     ·rw [if_neg hkd,if_neg hkd]
      obtain ⟨lp,lc,ls,rp,rc,rs,hnd,hbo,hl1,hl2,hd256⟩:∃ lp lc ls rp rc rs,nd=branchN lp lc ls rp rc rs∧branchOk lp lc ls rp rc rs=true∧ls.length=32∧rs.length=32∧depth≠256:=by
       rcases nodeAtL_cases hn with ⟨k,v,rfl,_⟩ | h
       ·exact absurd rfl hkd
       ·exact h
      have hch:childOk lp lc ls=true∧childOk rp rc rs=true:=by
       unfold branchOk at hbo
       simp only [Bool.and_eq_true] at hbo
       exact ⟨hbo.1.1.1.1,hbo.1.1.1.2⟩
      have hnext:dNext nd (bitK key depth)=0∨2≤dNext nd (bitK key depth):=by
       rw [hnd]
       unfold dNext
       split
       ·show ((rp:Nat):Int)=0∨2≤((rp:Nat):Int)
        rcases childOk_page hch.2 with h | ⟨h,_⟩ <;> omega
       ·show ((lp:Nat):Int)=0∨2≤((lp:Nat):Int)
        rcases childOk_page hch.1 with h | ⟨h,_⟩ <;> omega
      by_cases hle:page≤dNext nd (bitK key depth)
      ·rw [if_pos hle]
       have hnone:pathL (entL kept) key f (dNext nd (bitK key depth)) page (dStated nd (bitK key depth)) (depth+1)=none:=by
        cases f with
        | zero=>rfl
        | succ f =>
         rw [pathL,if_neg (by omega)]
         have:standsL (entL kept) (dNext nd (bitK key depth)) page (dStated nd (bitK key depth)) key (depth+1)=none:=by
          unfold standsL
          rw [if_pos (.inr (.inr hle))]
         rw [this]
       rw [hnone]
       exact ⟨fun _=>rfl,fun ns h=>(by cases h)⟩
      ·rw [if_neg hle]
       have hds:=fun j=>dSums_getD S nd depth (bitK key depth) j hS (by omega)
       have ih:=down_path kept key f (dNext nd (bitK key depth)) page (dStated nd (bitK key depth)) (depth+1) (dSums S nd depth (bitK key depth)) hnext (fun _=>by omega) (by omega) (hds 0).1
       cases hpl:pathL (entL kept) key f (dNext nd (bitK key depth)) page (dStated nd (bitK key depth)) (depth+1) with
       | none=>exact ⟨fun _=>ih.1 hpl,fun ns h=>(by cases h)⟩
       | some ns' =>
        obtain ⟨i1,i2,i3⟩:=ih.2 ns' hpl
        refine ⟨fun h=>(by cases h),fun ns h=>?_⟩
        cases h
        refine ⟨fun j hj=>?_,i2,?_⟩
        ·rw [i1 j hj]
         unfold downAt
         by_cases hdj:depth+1≤255 - j
         ·rw [if_pos hdj,if_pos (show depth≤255 - j by omega),show 255 - j - depth=(255 - j - (depth+1))+1 by omega,List.getElem?_cons_succ,(hds j).2,if_neg (by omega)]
         ·rw [if_neg hdj,(hds j).2]
          by_cases hej:255 - j=depth
          ·rw [if_pos (show depth≤255 - j by omega),hej,Nat.sub_self,List.getElem?_cons_zero]
           dsimp only
           rw [if_neg hkd]
           by_cases ho:dOther nd (bitK key depth)=0
           ·rw [if_pos ho,if_neg (fun h=>h.2 ho)]
           ·rw [if_neg ho,if_pos ⟨by omega,ho⟩]
          ·rw [if_neg (show ¬ depth≤255 - j by omega),if_neg (by omega)]
        ·rw [i3]
         unfold endR
         cases hns:ns' with
         | nil=>simp [hkd]
         | cons x r=>simp [List.getLast?_cons_cons]
open Go.RowKit
theorem endR_all {ns:List Nde} (h:∀ nd∈ns,nd.kind≠1):endR ns=.none:=by
 unfold endR
 cases hl:ns.getLast? with
 | none=>rfl
 | some nd =>
  dsimp only
  rw [if_neg (h nd (List.mem_of_getLast? hl))]
theorem endR_leaf {ns:List Nde} {nd:Nde} {m:Nat} (h:ns[m]?=some nd) (hl:ns.length=m+1) (hk:nd.kind=1):endR ns=.leaf nd:=by
 unfold endR
 rw [List.getLast?_eq_getElem?,hl,Nat.add_sub_cancel,h]
 dsimp only
 rw [if_pos hk]
theorem prove_over {kept:List Ent} {key:List UInt8} {k f:Nat} {root:Int} {S':List (List UInt8)} {R:DR} (hroot:root=0∨2≤root∧root < 2+(kept.length:Int)) (hk:key.length=32)
  (hR:downL kept 2 key f root (-1) 0 (emptiesL k 256)=(S',R)) {ns:List Nde} (hp:pathL (entL kept) key f root (2+((entL kept).length:Int)) (-1) 0=some ns) {o:OverEnd} (ho:EndOk ns key k o):R≠.err∧pvPf R key k S'=overPf ns key k o:=by
 have hlen:(entL kept).length=kept.length:=by simp [entL]
 have hd:=(down_path kept key f root (2+((entL kept).length:Int)) (-1) 0 (emptiesL k 256) (by omega) (fun h=>by omega) (by omega) (emptiesL_length k 256)).2 ns hp
 rw [hR] at hd
 obtain ⟨d1,d2,d3⟩:=hd
 dsimp only at d1 d2 d3
 have hat:∀ j,j < 256→S'.getD j []=if 255 - j < o.m then besAt (ns.getD (255 - j) nd0) key k (255 - j) else emptyD k j:=fun j hj=>by
  rw [d1 j hj]
  unfold downAt
  rw [if_pos (Nat.zero_le _),Nat.sub_zero,emptiesL_getD k hj]
  have hbr:∀ nd,ns[255 - j]?=some nd→nd.kind≠1→(if dOther nd (bitK key (255 - j))=0 then emptyD k j else dSum nd (bitK key (255 - j)))=besAt (ns.getD (255 - j) nd0) key k (255 - j):=fun nd hn _=>by
   unfold besAt
   rw [List.getD_eq_getElem?_getD,hn,show 255 - (255 - j)=j by omega]
   rfl
  rcases ho with ⟨hm,hall,_⟩ | ⟨nd,hnd,hkd,_,hl,_⟩
  ·cases hn:ns[255 - j]? with
   | none =>
    have:ns.length≤255 - j:=by simpa using hn
    rw [if_neg (show ¬ 255 - j < o.m by omega)]
   | some nd =>
    have h1:=(List.getElem?_eq_some_iff.1 hn).1
    have h2:=hall nd (List.mem_of_getElem? hn)
    dsimp only
    rw [if_neg h2,if_pos (show 255 - j < o.m by omega)]
    exact hbr nd hn h2
  ·cases hn:ns[255 - j]? with
   | none =>
    have:ns.length≤255 - j:=by simpa using hn
    rw [if_neg (show ¬ 255 - j < o.m by omega)]
   | some nd' =>
    have h1:=(List.getElem?_eq_some_iff.1 hn).1
    dsimp only
    by_cases hm:255 - j < o.m
    ·have h2:nd'.kind≠1:=by
      rcases pathL_ok hp (255 - j) nd' hn with ⟨lk,lv,rfl,_,_,_,h5⟩ | ⟨lp,lc,ls,rp,rc,rs,rfl,_⟩
      ·omega
      ·show ¬ (2:Int)=1
       decide
     rw [if_neg h2,if_pos hm]
     exact hbr nd' hn h2
    ·have he:255 - j=o.m:=by omega
     rw [he,hnd] at hn
     injection hn with hn
     subst hn
     rw [if_pos hkd,if_neg hm]
 have hcong:∀ T:List (List UInt8),(∀ j,j < 256→T.getD j []=overAt ns key k o j)→pvBits T (emptiesL k 256) 256=pvBits (overT ns key k o) (emptiesL k 256) 256∧pvOnes T (emptiesL k 256) 256=pvOnes (overT ns key k o) (emptiesL k 256) 256:=fun T hT =>
  ⟨pvBits_congr 256 (fun j hj=>by rw [hT j hj,overT_getD _ _ _ _ hj]),pvOnes_congr 256 (fun j hj=>by rw [hT j hj,overT_getD _ _ _ _ hj])⟩
 rcases ho with ⟨hm,hall,hf,hv,hla⟩ | ⟨nd,hnd,hkd,hkl,hl,hcase⟩
 ·have e:R=.none:=by rw [d3];exact endR_all hall
  subst e
  refine ⟨by simp,?_⟩
  obtain ⟨c1,c2⟩:=hcong S' (fun j hj=>by rw [hat j hj,overAt,hla,if_neg (show ¬ (j:Int)=-1 by omega)])
  unfold pvPf overPf
  rw [hf,hv]
  simp only [pvSums,pvFound,pvVal,c1,c2]
 ·have e:R=.leaf nd:=by rw [d3];exact endR_leaf hnd hl hkd
  subst e
  refine ⟨by simp,?_⟩
  rcases hcase with ⟨hkey,hf,hv,hla⟩ | ⟨hkey,hf,hv,hla,hls⟩
  ·obtain ⟨c1,c2⟩:=hcong S' (fun j hj=>by rw [hat j hj,overAt,hla,if_neg (show ¬ (j:Int)=-1 by omega)])
   unfold pvPf overPf
   rw [hf,hv]
   simp only [pvSums,pvFound,pvVal,if_pos hkey,c1,c2,decide_eq_true hkey]
  ·have hc:commonK nd.key key≤255:=by
    have h1:=commonK_le nd.key key
    have h2:commonK nd.key key≠256:=fun e=>hkey ((commonK_eq hkl hk).1 e)
    omega
   obtain ⟨c1,c2⟩:=hcong (S'.set (255 - commonK nd.key key) (climbD k nd.key 0 (leafD k nd.key nd.val) (255 - commonK nd.key key))) (fun j hj=>by
    rw [getD_setL _ _ _ _ (by rw [d2];omega),overAt,hla]
    by_cases e:j=255 - commonK nd.key key
    ·rw [if_pos e,if_pos (show (j:Int)=((255 - commonK nd.key key:Nat):Int) by omega),hls]
    ·rw [if_neg e,if_neg (show ¬ (j:Int)=((255 - commonK nd.key key:Nat):Int) by omega),hat j hj])
   unfold pvPf overPf
   rw [hf,hv]
   simp only [pvSums,pvFound,pvVal,if_neg hkey,c1,c2,decide_eq_false hkey]
theorem prove_over_none {kept:List Ent} {key:List UInt8} {k f:Nat} {root:Int} {S':List (List UInt8)} {R:DR} (hroot:root=0∨2≤root∧root < 2+(kept.length:Int))
  (hR:downL kept 2 key f root (-1) 0 (emptiesL k 256)=(S',R)) (hp:pathL (entL kept) key f root (2+((entL kept).length:Int)) (-1) 0=none):R=.err:=by
 have hlen:(entL kept).length=kept.length:=by simp [entL]
 have hd:=(down_path kept key f root (2+((entL kept).length:Int)) (-1) 0 (emptiesL k 256) (by omega) (fun h=>by omega) (by omega) (emptiesL_length k 256)).1 hp
 rw [hR] at hd
 exact hd
open Go.RowKit
set_option maxRecDepth 100000 in
set_option maxHeartbeats 3200000 in
theorem rPOver_bad {w:World} {kv lv:Value} {L:List (Int × List UInt8)} {P:Nat→Prop} {key:List UInt8} (hp:PagesIn w kv lv L P) (hL:L.length≤1048576) (hld:∀ p∈L,p.2.length≤1048576) (hk:key.length=32) (n:Int) (k:Nat) (hkn:(k:Int)=max 0 (min n 32)) (ht:RTabs w) (root:Int) (h0:¬ root=0) (hr:root < 2∨2+(L.length:Int)≤root) :
  Calls Tryz.prog 13 #[.int .i64 n,.agg #[kv,lv],.int .i64 root,.agg (key.map B).toArray] w fun e w'=>e=refusal 41∧Keeps [] w w':=by
 obtain ⟨Z,⟨hZ,hZi,hZ1⟩,hZb⟩:∃ Z:List Value,(Z.length=35∧(Tryz.prog.info? 57).map (fun i=>(i.zero,i.size,i.bytes))=some (some (.agg Z.toArray),35,88)∧(∀ v∈Z,v.oneCell'=true))∧Z=pfZC:=⟨_,pfZC_spec,rfl⟩
 have hbz:∀ w,(Instr.build 57 #[]).run Tryz.prog w=.ok (.agg Z.toArray) w:=fun w=>by rw [hZb];exact run_build_pfZ w
 obtain ⟨a,c,a2,c2,rfl,rfl⟩:=hp.forms
 obtain ⟨N,hN⟩:∃ N,N=L.length:=⟨_,rfl⟩
 obtain ⟨q5,hq5⟩:∃ x,x=w.heap.size:=⟨_,rfl⟩
 obtain ⟨wa,hwa⟩:∃ x,x=w.alloc (.cells #[.slice a L.length c,.slice a2 L.length c2] 32 (0,0)):=⟨_,rfl⟩
 obtain ⟨q7,hq7⟩:∃ x,x=w.heap.size+1:=⟨_,rfl⟩
 have eq7:q7=wa.heap.size:=by rw [hwa,hq7];simp
 obtain ⟨wb,hwb⟩:∃ x,x=wa.alloc (.cells (key.map B).toArray 60 (0,0)):=⟨_,rfl⟩
 obtain ⟨q8,hq8⟩:∃ x,x=wb.heap.size:=⟨_,rfl⟩
 have e8:q8=w.heap.size+2:=by rw [hq8,hwb,hwa];simp
 obtain ⟨w1,hw1⟩:∃ x,x=wb.alloc (.cells Z.toArray 57 (0,0)):=⟨_,rfl⟩
 have k1:Keeps [] w w1:=by rw [hw1,hwb,hwa];exact (((Keeps.refl _ _).alloc _).alloc _).alloc _
 have b5:w1.heap[q5]?=some (.cells #[.slice a L.length c,.slice a2 L.length c2] 32 (0,0)):=by rw [hw1];exact (heap_old_at (by rw [← hq8];omega)).trans (by rw [hwb];exact (heap_old_at (by rw [← eq7];omega)).trans (by rw [hwa];exact heap_new_at hq5))
 have b7:Blk w1 q7 60 key:=by rw [hw1];exact (heap_old_at (by rw [← hq8];omega)).trans (by rw [hwb];exact heap_new_at eq7)
 have b8:w1.heap[q8]?=some (.cells Z.toArray 57 (0,0)):=by rw [hw1];exact heap_new_at hq8
 have hnx:=fun (wx:World)=>qNext_any (w:=wx) (a:=a) (a2:=a2) (n:=L.length) (c:=c) (n2:=L.length) (c2:=c2) (by omega)
 obtain ⟨M,hM⟩:∃ M:Nat,M=2+L.length:=⟨_,rfl⟩
 rw [← hM] at hnx
 have hMi:2+(L.length:Int)=(M:Int):=by omega
 rw [hMi] at hr
 rw [← hN] at hnx b5 hwa ⊢
 unfold refusal
 rw [← hZb]
 have HNX:=Lib.hid hnx
 have HZ:=Lib.hid (And.intro hZ hZ1)
 have HZI:=Lib.hid hZi
 have HBZ:=Lib.hid hbz
 have HQ5:=Lib.hid hq5
 have HWA:=Lib.hid hwa
 have HQ7:=Lib.hid hq7
 have HWB:=Lib.hid hwb
 have HQ8:=Lib.hid hq8
 have HE8:=Lib.hid e8
 have HW1:=Lib.hid hw1
 have HK1:=Lib.hid k1
 have HB5:=Lib.hid b5
 have HB7:=Lib.hid b7
 have HB8:=Lib.hid b8
 have HSP:=Lib.hid (show (Tryz.prog.info? 32).map (·.size)=some ([Value.slice a N c,.slice a2 N c2]:List Value).length from size_rpages)
 have HSK:=Lib.hid (size_key_of hk)
 have HSZ:=Lib.hid (show (Tryz.prog.info? 57).map (·.size)=some Z.length by rw [hZ];exact size_proof)
 have HB8w:=Lib.hid (fun (wx:World) (h:Keeps [] w1 wx)=>(h.block q8 (lt_of_heap b8) (by simp)).trans b8)
 clear hZ hZi hZ1 hbz hq5 hwa hq7 eq7 hwb hq8 e8 hw1 k1 b5 b7 b8 hnx hp hL hld hk ht hN hZb hM hMi
 by_cases hr2:root < 2
 ·clear hr
  go_enter Tryz.func13,Tryz.ntmps13
  go_upto_region 1 with (first | (refine wl_alloc rfl 57 rfl ?_;refine ⟨_,_,run_alloc _ HZI.out,?_⟩;try simp only [zA,zB,zC,zD,zE,zF,zG,zH]))
  try simp only [Value.cells]
  rw [← HWA.out,← HWB.out,← HW1.out,← HQ8.out,← HQ7.out,← HQ5.out]
  have HR5:=Lib.hid (pages_cells HB5.out).2.2
  go_upto_region 2 with (first | (refine wpList_load_mid rfl 32 (.tmp 5) rfl q5 0 (by rfl) [.slice a N c,.slice a2 N c2] _ HR5.out Tryz.underlying32 rfl HSP.out ?_;try simp only [zA,zB,zC,zD,zE,zF,zG,zH]) | (go_at_call 8;refine (HNX.out _).mono ?_;rintro e w2 ⟨rfl,hk2⟩))
  have HK2:=Lib.hid hk2
  clear hk2 HR5
  go_wp2_with (first | (refine wl_build rfl 57 #[] #[] rfl (by simp [Act.eval]) ?_;refine ⟨_,_,HBZ.out _,?_⟩;try simp only [zA,zB,zC,zD,zE,zF,zG,zH]) | (refine wl_store rfl 57 (.tmp 8) (.tmp 40) rfl ?_;refine ⟨_,run_store_pf (HB8w.out _ HK2.out) HZ.out.1 HZ.out.1 HZ.out.2,?_⟩;try simp only [zA,zB,zC,zD,zE,zF,zG,zH]))
  refine bodyPost_ret (results_row2 (cs:=Z) rfl rfl rfl (rangeAt_all (store_all (HB8w.out _ HK2.out) rfl)) Tryz.underlying57 rfl HSZ.out) rfl ⟨rfl,?_⟩
  exact (HK1.out.trans (G:=[]) HK2.out (by simp)).setCells (.inr (by have:=HE8.out;omega)) _ _
 ·have hr3:(M:Int)≤root:=by omega
  clear hr
  go_enter Tryz.func13,Tryz.ntmps13
  go_upto_region 1 with (first | (refine wl_alloc rfl 57 rfl ?_;refine ⟨_,_,run_alloc _ HZI.out,?_⟩;try simp only [zA,zB,zC,zD,zE,zF,zG,zH]))
  try simp only [Value.cells]
  rw [← HWA.out,← HWB.out,← HW1.out,← HQ8.out,← HQ7.out,← HQ5.out]
  have HR5:=Lib.hid (pages_cells HB5.out).2.2
  go_upto_region 2 with (first | (refine wpList_load_mid rfl 32 (.tmp 5) rfl q5 0 (by rfl) [.slice a N c,.slice a2 N c2] _ HR5.out Tryz.underlying32 rfl HSP.out ?_;try simp only [zA,zB,zC,zD,zE,zF,zG,zH]) | (go_at_call 8;refine (HNX.out _).mono ?_;rintro e w2 ⟨rfl,hk2⟩))
  have HK2:=Lib.hid hk2
  clear hk2 HR5
  go_wp2_with (first | (refine wl_build rfl 57 #[] #[] rfl (by simp [Act.eval]) ?_;refine ⟨_,_,HBZ.out _,?_⟩;try simp only [zA,zB,zC,zD,zE,zF,zG,zH]) | (refine wl_store rfl 57 (.tmp 8) (.tmp 40) rfl ?_;refine ⟨_,run_store_pf (HB8w.out _ HK2.out) HZ.out.1 HZ.out.1 HZ.out.2,?_⟩;try simp only [zA,zB,zC,zD,zE,zF,zG,zH]))
  refine bodyPost_ret (results_row2 (cs:=Z) rfl rfl rfl (rangeAt_all (store_all (HB8w.out _ HK2.out) rfl)) Tryz.underlying57 rfl HSZ.out) rfl ⟨rfl,?_⟩
  exact (HK1.out.trans (G:=[]) HK2.out (by simp)).setCells (.inr (by have:=HE8.out;omega)) _ _
set_option maxRecDepth 100000 in
set_option maxHeartbeats 3200000 in
theorem rPOver_none {w:World} {kv lv:Value} {L:List (Int × List UInt8)} {P:Nat→Prop} {key:List UInt8} (hp:PagesIn w kv lv L P) (hL:L.length≤1048576) (hld:∀ p∈L,p.2.length≤1048576) (hk:key.length=32) (n:Int) (k:Nat) (hkn:(k:Int)=max 0 (min n 32)) (ht:RTabs w) (root:Int) {fuel:Nat} (hf:2+L.length < fuel) (hr:root=0∨2≤root∧root < 2+(L.length:Int)) {PR:Option (List Nde)} (hPR:PR=pathL L key fuel root (2+(L.length:Int)) (-1) 0) (hpn:PR=none) :
  Calls Tryz.prog 13 #[.int .i64 n,.agg #[kv,lv],.int .i64 root,.agg (key.map B).toArray] w fun e w'=>e=refusal 4∧Keeps [] w w':=by
 obtain ⟨Z,⟨hZ,hZi,hZ1⟩,hZb⟩:∃ Z:List Value,(Z.length=35∧(Tryz.prog.info? 57).map (fun i=>(i.zero,i.size,i.bytes))=some (some (.agg Z.toArray),35,88)∧(∀ v∈Z,v.oneCell'=true))∧Z=pfZC:=⟨_,pfZC_spec,rfl⟩
 have hbz:∀ w,(Instr.build 57 #[]).run Tryz.prog w=.ok (.agg Z.toArray) w:=fun w=>by rw [hZb];exact run_build_pfZ w
 obtain ⟨a,c,a2,c2,rfl,rfl⟩:=hp.forms
 obtain ⟨N,hN⟩:∃ N,N=L.length:=⟨_,rfl⟩
 obtain ⟨q5,hq5⟩:∃ x,x=w.heap.size:=⟨_,rfl⟩
 obtain ⟨wa,hwa⟩:∃ x,x=w.alloc (.cells #[.slice a L.length c,.slice a2 L.length c2] 32 (0,0)):=⟨_,rfl⟩
 obtain ⟨q7,hq7⟩:∃ x,x=w.heap.size+1:=⟨_,rfl⟩
 have eq7:q7=wa.heap.size:=by rw [hwa,hq7];simp
 obtain ⟨wb,hwb⟩:∃ x,x=wa.alloc (.cells (key.map B).toArray 60 (0,0)):=⟨_,rfl⟩
 obtain ⟨q8,hq8⟩:∃ x,x=wb.heap.size:=⟨_,rfl⟩
 have e8:q8=w.heap.size+2:=by rw [hq8,hwb,hwa];simp
 obtain ⟨w1,hw1⟩:∃ x,x=wb.alloc (.cells Z.toArray 57 (0,0)):=⟨_,rfl⟩
 have k1:Keeps [] w w1:=by rw [hw1,hwb,hwa];exact (((Keeps.refl _ _).alloc _).alloc _).alloc _
 have b5:w1.heap[q5]?=some (.cells #[.slice a L.length c,.slice a2 L.length c2] 32 (0,0)):=by rw [hw1];exact (heap_old_at (by rw [← hq8];omega)).trans (by rw [hwb];exact (heap_old_at (by rw [← eq7];omega)).trans (by rw [hwa];exact heap_new_at hq5))
 have b7:Blk w1 q7 60 key:=by rw [hw1];exact (heap_old_at (by rw [← hq8];omega)).trans (by rw [hwb];exact heap_new_at eq7)
 have b8:w1.heap[q8]?=some (.cells Z.toArray 57 (0,0)):=by rw [hw1];exact heap_new_at hq8
 have hnx:=fun (wx:World)=>qNext_any (w:=wx) (a:=a) (a2:=a2) (n:=L.length) (c:=c) (n2:=L.length) (c2:=c2) (by omega)
 obtain ⟨M,hM⟩:∃ M:Nat,M=2+L.length:=⟨_,rfl⟩
 rw [← hM] at hnx
 have hMi:2+(L.length:Int)=(M:Int):=by omega
 rw [hMi] at hr
 have hpath:=fun (wx:World) (h:Keeps [] w wx)=>qPath_any (hp.keeps h (by simp)) hL hld hk root fuel hf
 rw [← hPR] at hpath
 have hemp:=fun (wx:World) (h:Keeps [] w wx)=>r9Empties_any (w:=wx) n k hkn (ht.keeps h (by simp) (by simp))
 have q1:¬ root < 2∨root=0:=by omega
 have q2:¬ (M:Int)≤root∨root=0:=by omega
 rw [← hN] at hnx b5 hwa hpath ⊢
 rw [hpn] at hpath
 unfold refusal
 rw [← hZb]
 have HNX:=Lib.hid hnx
 have HZ:=Lib.hid (And.intro hZ hZ1)
 have HZI:=Lib.hid hZi
 have HBZ:=Lib.hid hbz
 have HQ5:=Lib.hid hq5
 have HWA:=Lib.hid hwa
 have HQ7:=Lib.hid hq7
 have HWB:=Lib.hid hwb
 have HQ8:=Lib.hid hq8
 have HE8:=Lib.hid e8
 have HW1:=Lib.hid hw1
 have HK1:=Lib.hid k1
 have HB5:=Lib.hid b5
 have HB7:=Lib.hid b7
 have HB8:=Lib.hid b8
 have HSP:=Lib.hid (show (Tryz.prog.info? 32).map (·.size)=some ([Value.slice a N c,.slice a2 N c2]:List Value).length from size_rpages)
 have HSK:=Lib.hid (size_key_of hk)
 have HSZ:=Lib.hid (show (Tryz.prog.info? 57).map (·.size)=some Z.length by rw [hZ];exact size_proof)
 have HPATH:=Lib.hid hpath
 have HEMP:=Lib.hid hemp
 clear hZ hZi hZ1 hbz hq5 hwa hq7 eq7 hwb hq8 e8 hw1 k1 b5 b7 b8 hnx hp hL hld hk ht hN hZb hM hMi hPR hpn hf hpath hemp hkn
 by_cases h0:root=0
 ·clear hr q1 q2
  subst h0
  go_enter Tryz.func13,Tryz.ntmps13
  go_upto_region 1 with (first | (refine wl_alloc rfl 57 rfl ?_;refine ⟨_,_,run_alloc _ HZI.out,?_⟩;try simp only [zA,zB,zC,zD,zE,zF,zG,zH]))
  try simp only [Value.cells]
  rw [← HWA.out,← HWB.out,← HW1.out,← HQ8.out,← HQ7.out,← HQ5.out]
  have HR5:=Lib.hid (pages_cells HB5.out).2.2
  go_upto_region 2 with (first | (refine wpList_load_mid rfl 32 (.tmp 5) rfl q5 0 (by rfl) [.slice a N c,.slice a2 N c2] _ HR5.out Tryz.underlying32 rfl HSP.out ?_;try simp only [zA,zB,zC,zD,zE,zF,zG,zH]) | (go_at_call 8;refine (HNX.out _).mono ?_;rintro e w2 ⟨rfl,hk2⟩))
  have HK2:=Lib.hid hk2
  clear hk2 HR5
  go_upto_region 5 with (first | (go_at_call 30;refine (HEMP.out _ (HK1.out.trans (G:=[]) HK2.out (by simp))).mono ?_;rintro e w3 ⟨ve,rfl,hoe,hk3⟩))
  have HK3:=Lib.hid (HK2.out.trans (G:=[]) hk3 (by simp))
  have HOE:=Lib.hid hoe
  have HR5:=Lib.hid (pages_cells ((HK3.out.block q5 (lt_of_heap HB5.out) (by simp)).trans HB5.out)).2.2
  have HR7:=Lib.hid (rangeAt_all (HB7.out.keeps HK3.out (by simp)))
  have HPA:=Lib.hid (HPATH.out w3 (HK1.out.trans (G:=[]) HK3.out (by simp)))
  clear hk3 hoe HK2
  go_upto_region 6 with (first | (refine wpList_load_mid rfl 32 (.tmp 5) rfl q5 0 (by rfl) [.slice a N c,.slice a2 N c2] _ HR5.out Tryz.underlying32 rfl HSP.out ?_;try simp only [zA,zB,zC,zD,zE,zF,zG,zH]) | (refine wpList_load_mid rfl 60 (.tmp 7) rfl q7 0 (by rfl) (key.map B) _ HR7.out Tryz.underlying60 rfl HSK.out ?_;try simp only [zA,zB,zC,zD,zE,zF,zG,zH]) | (go_at_call 31;refine HPA.out.mono ?_;rintro e w4 ⟨rfl,hk4⟩))
  have HB84:=Lib.hid (((HK3.out.trans (G:=[]) hk4 (by simp)).block q8 (lt_of_heap HB8.out) (by simp)).trans HB8.out)
  have HK4:=Lib.hid (HK1.out.trans (G:=[]) (HK3.out.trans (G:=[]) hk4 (by simp)) (by simp))
  clear hk4
  go_wp2_with (first | (refine wl_build rfl 57 #[] #[] rfl (by simp [Act.eval]) ?_;refine ⟨_,_,HBZ.out _,?_⟩;try simp only [zA,zB,zC,zD,zE,zF,zG,zH]) | (refine wl_store rfl 57 (.tmp 8) (.tmp 52) rfl ?_;refine ⟨_,run_store_pf HB84.out HZ.out.1 HZ.out.1 HZ.out.2,?_⟩;try simp only [zA,zB,zC,zD,zE,zF,zG,zH]))
  refine bodyPost_ret (results_row2 (cs:=Z) rfl rfl rfl (rangeAt_all (store_all HB84.out rfl)) Tryz.underlying57 rfl HSZ.out) rfl ⟨rfl,?_⟩
  exact HK4.out.setCells (.inr (by have:=HE8.out;omega)) _ _
 ·have r1:¬ root < 2:=by omega
  have r2:¬ (M:Int)≤root:=by omega
  clear hr q1 q2
  go_enter Tryz.func13,Tryz.ntmps13
  go_upto_region 1 with (first | (refine wl_alloc rfl 57 rfl ?_;refine ⟨_,_,run_alloc _ HZI.out,?_⟩;try simp only [zA,zB,zC,zD,zE,zF,zG,zH]))
  try simp only [Value.cells]
  rw [← HWA.out,← HWB.out,← HW1.out,← HQ8.out,← HQ7.out,← HQ5.out]
  have HR5:=Lib.hid (pages_cells HB5.out).2.2
  go_upto_region 2 with (first | (refine wpList_load_mid rfl 32 (.tmp 5) rfl q5 0 (by rfl) [.slice a N c,.slice a2 N c2] _ HR5.out Tryz.underlying32 rfl HSP.out ?_;try simp only [zA,zB,zC,zD,zE,zF,zG,zH]) | (go_at_call 8;refine (HNX.out _).mono ?_;rintro e w2 ⟨rfl,hk2⟩))
  have HK2:=Lib.hid hk2
  clear hk2 HR5
  go_upto_region 5 with (first | (go_at_call 30;refine (HEMP.out _ (HK1.out.trans (G:=[]) HK2.out (by simp))).mono ?_;rintro e w3 ⟨ve,rfl,hoe,hk3⟩))
  have HK3:=Lib.hid (HK2.out.trans (G:=[]) hk3 (by simp))
  have HOE:=Lib.hid hoe
  have HR5:=Lib.hid (pages_cells ((HK3.out.block q5 (lt_of_heap HB5.out) (by simp)).trans HB5.out)).2.2
  have HR7:=Lib.hid (rangeAt_all (HB7.out.keeps HK3.out (by simp)))
  have HPA:=Lib.hid (HPATH.out w3 (HK1.out.trans (G:=[]) HK3.out (by simp)))
  clear hk3 hoe HK2
  go_upto_region 6 with (first | (refine wpList_load_mid rfl 32 (.tmp 5) rfl q5 0 (by rfl) [.slice a N c,.slice a2 N c2] _ HR5.out Tryz.underlying32 rfl HSP.out ?_;try simp only [zA,zB,zC,zD,zE,zF,zG,zH]) | (refine wpList_load_mid rfl 60 (.tmp 7) rfl q7 0 (by rfl) (key.map B) _ HR7.out Tryz.underlying60 rfl HSK.out ?_;try simp only [zA,zB,zC,zD,zE,zF,zG,zH]) | (go_at_call 31;refine HPA.out.mono ?_;rintro e w4 ⟨rfl,hk4⟩))
  have HB84:=Lib.hid (((HK3.out.trans (G:=[]) hk4 (by simp)).block q8 (lt_of_heap HB8.out) (by simp)).trans HB8.out)
  have HK4:=Lib.hid (HK1.out.trans (G:=[]) (HK3.out.trans (G:=[]) hk4 (by simp)) (by simp))
  clear hk4
  go_wp2_with (first | (refine wl_build rfl 57 #[] #[] rfl (by simp [Act.eval]) ?_;refine ⟨_,_,HBZ.out _,?_⟩;try simp only [zA,zB,zC,zD,zE,zF,zG,zH]) | (refine wl_store rfl 57 (.tmp 8) (.tmp 52) rfl ?_;refine ⟨_,run_store_pf HB84.out HZ.out.1 HZ.out.1 HZ.out.2,?_⟩;try simp only [zA,zB,zC,zD,zE,zF,zG,zH]))
  refine bodyPost_ret (results_row2 (cs:=Z) rfl rfl rfl (rangeAt_all (store_all HB84.out rfl)) Tryz.underlying57 rfl HSZ.out) rfl ⟨rfl,?_⟩
  exact HK4.out.setCells (.inr (by have:=HE8.out;omega)) _ _
end Go.Proofs.YtakaocenbempmaaGreatDoor
