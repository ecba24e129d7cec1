/-
  Lemmas of a claim, bundle G: XShB XFrB XSup XFrQ.
-/
import Derived.Deep.CutBlock
import Derived.Deep.DeepCutAuto
import Derived.Test.YtakaocenbempmaaGreatDoorPfF
import Derived.Deep.MidRow
set_option linter.unusedVariables false
set_option linter.unusedSimpArgs false
namespace Go.Proofs.YtakaocenbempmaaGreatDoor
open Go.RowKit
theorem be_bits {a b c d:Nat} (ha:a < 256) (hb:b < 256) (hc:c < 256) (hd:d < 256) :
  bits .or .u32 (bits .or .u32 (bits .or .u32 ((a:Int) * 16777216) ((b:Int) * 65536)) ((c:Int) * 256)) (d:Int)=((a * 16777216+b * 65536+c * 256+d:Nat):Int):=by
 have e1:((a:Int) * 16777216)=((a * 16777216:Nat):Int):=by omega
 have e2:((b:Int) * 65536)=((b * 65536:Nat):Int):=by omega
 have e3:((c:Int) * 256)=((c * 256:Nat):Int):=by omega
 have o1:a * 16777216 ||| b * 65536=a * 16777216+b * 65536:=by
  have:=Nat.two_pow_add_eq_or_of_lt (i:=24) (b:=b * 65536) (by omega) a
  rw [show (2:Nat) ^ 24=16777216 from rfl,Nat.mul_comm 16777216 a] at this
  exact this.symm
 have o2:(a * 16777216+b * 65536) ||| c * 256=a * 16777216+b * 65536+c * 256:=by
  have:=Nat.two_pow_add_eq_or_of_lt (i:=16) (b:=c * 256) (by omega) (a * 256+b)
  rw [show (2:Nat) ^ 16 * (a * 256+b)=a * 16777216+b * 65536 by omega] at this
  exact this.symm
 have o3:(a * 16777216+b * 65536+c * 256) ||| d=a * 16777216+b * 65536+c * 256+d:=by
  have:=Nat.two_pow_add_eq_or_of_lt (i:=8) (b:=d) (by omega) (a * 65536+b * 256+c)
  rw [show (2:Nat) ^ 8 * (a * 65536+b * 256+c)=a * 16777216+b * 65536+c * 256 by omega] at this
  exact this.symm
 rw [e1,e2,e3,bits_or_u32 (by omega) (by omega),o1,bits_or_u32 (by omega) (by omega),o2,bits_or_u32 (by omega) (by omega),o3]
theorem sched_set {p:List UInt8} {k X:Nat} (hk:k < 64):(sched p k++List.replicate (64 - k) 0).set k X=sched p k++[X]++List.replicate (64 - (k+1)) 0:=by
 rw [List.set_append_right _ _ (by rw [sched_length];exact Nat.le_refl _),sched_length,Nat.sub_self,show 64 - k=(64 - (k+1))+1 by omega,List.replicate_succ,List.set_cons_zero]
 simp
theorem sched_succ_lt {p:List UInt8} {k:Nat} (hk:k < 16):sched p (k+1)=sched p k++[be4 p k]:=by rw [sched,if_pos hk]
theorem sched_succ_ge {p:List UInt8} {k:Nat} (hk:16≤k):sched p (k+1)=sched p k++[shaNext (sched p k)]:=by rw [sched,if_neg (by omega)]
theorem cell_sets_of' {w:World} {b j:Nat} {t:TypeId} {cs:Array Value} (h:w.heap[b]?=some (.cells cs t (0,0))) {v:Value} (hv:cs[j]?=some v):w.cell? ⟨b,j,none⟩=some v:=by
 rw [cell_of_row w b j _ _ _ h];exact hv
def addW (l m:List Nat) (k:Nat):List Nat:=(List.range 8).map fun i=>if i < k then (l.getD i 0+m.getD i 0) % 4294967296 else l.getD i 0
theorem add_cell {w:World} {g j x:Nat} {l:List Nat} {rest:List Value} {t:TypeId} (h:w.heap[g]?=some (.cells ((l.map W32)++rest).toArray t (0,0))) (hj:j < l.length) :
  (w.setCell ⟨g,j,none⟩ (.int .u32 x)).heap[g]?=some (.cells (((l.set j x).map W32)++rest).toArray t (0,0)):=by
 rw [heap_setCell_same w g j _ t _ h]
 simp only [List.setIfInBounds_toArray,List.map_set]
 rw [List.set_append_left _ _ (by simpa using hj)]
 rfl
def S8.words (s:S8):List Nat:=[s.a,s.b,s.c,s.d,s.e,s.f,s.g,s.h]
structure Tabs (w:World):Prop where
 round:∀ i,i < 64→w.cell? ⟨2,i,none⟩=some (.int .u32 (shaK.getD i 0:Nat))
 begin:∀ i,i < 8→w.cell? ⟨0,i,none⟩=some (.int .u32 (shaIV.words.getD i 0:Nat))
 lt:2 < w.heap.size∧0 < w.heap.size
theorem Tabs.keeps {w w':World} {F:List Nat} (h:Tabs w) (hk:Keeps F w w') (h1:2 ∉ F) (h2:0 ∉ F):Tabs w' :=
 ⟨fun i hi=>(World.cell?_of_block (w:=w) (w':=w') (a:=⟨2,i,none⟩) (hk.block _ h.lt.1 h1)).trans (h.round i hi),fun i hi=>(World.cell?_of_block (w:=w) (w':=w') (a:=⟨0,i,none⟩) (hk.block _ h.lt.2 h2)).trans (h.begin i hi),by have:=hk.size;have:=h.lt;omega⟩
set_option maxRecDepth 100000 in
set_option maxHeartbeats 6400000 in
theorem step_any {w:World} {g gp op cp:Nat} {s:S8} {p:List UInt8} {rest:List Value} (hp:w.rangeAt gp op (p.map B)) (hpl:p.length=64) (hpg:gp < w.heap.size) (hcp:64≤cp) (hcm:cp≤9223372036854775807) (hs:s.ok)
  (hg:w.heap[g]?=some (.cells ((s.words.map W32)++rest).toArray 158 (0,0))) (hk:Tabs w) (hgr:g≠2) :
  Calls Tryz.prog 101 #[.pointer (some ⟨g,0,none⟩),.slice (some ⟨gp,op,none⟩) 64 cp] w fun e w'=>e=.returned (.tuple #[])∧w'.heap[g]?=some (.cells (((shaBlock s p).words.map W32)++rest).toArray 158 (0,0))∧Keeps [g] w w':=by
 obtain ⟨w1,hw1⟩:∃ x,x=w.alloc (.cells #[.int .u32 0,.int .u32 0,.int .u32 0,.int .u32 0,.int .u32 0,.int .u32 0,.int .u32 0,.int .u32 0,.int .u32 0,.int .u32 0,.int .u32 0,.int .u32 0,.int .u32 0,.int .u32 0,.int .u32 0,.int .u32 0,.int .u32 0,.int .u32 0,.int .u32 0,.int .u32 0,.int .u32 0,.int .u32 0,.int .u32 0,.int .u32 0,.int .u32 0,.int .u32 0,.int .u32 0,.int .u32 0,.int .u32 0,.int .u32 0,.int .u32 0,.int .u32 0,.int .u32 0,.int .u32 0,.int .u32 0,.int .u32 0,.int .u32 0,.int .u32 0,.int .u32 0,.int .u32 0,.int .u32 0,.int .u32 0,.int .u32 0,.int .u32 0,.int .u32 0,.int .u32 0,.int .u32 0,.int .u32 0,.int .u32 0,.int .u32 0,.int .u32 0,.int .u32 0,.int .u32 0,.int .u32 0,.int .u32 0,.int .u32 0,.int .u32 0,.int .u32 0,.int .u32 0,.int .u32 0,.int .u32 0,.int .u32 0,.int .u32 0,.int .u32 0] 181 (0,0)):=⟨_,rfl⟩
 obtain ⟨gw,hgw⟩:∃ x,x=w.heap.size:=⟨_,rfl⟩
 have hz:Wds w1 gw 181 (List.replicate 64 0):=by rw [hw1];exact heap_new_at hgw
 have k1:Keeps [] w w1:=by rw [hw1];exact (Keeps.refl _ _).alloc _
 have hbyte:∀ wx,Keeps [gw] w1 wx→∀ i,i < 64→wx.cell? ⟨gp,op+i,none⟩=some (.int .u8 ((p.getD i 0).toNat:Nat)):=fun wx hk i hi=>by
  have hb:wx.heap[gp]?=w.heap[gp]?:=(hk.block gp (by have:=k1.size;omega) (by simp;omega)).trans (k1.block gp hpg (by simp))
  exact range_byte hp hb (by rw [List.getD_eq_getElem?_getD,List.getElem?_eq_getElem (by omega)];rfl)
 have HB:=Lib.hid hbyte
 have HZ:=Lib.hid hz
 have HK1:=Lib.hid k1
 have HW:=Lib.hid hw1
 have HG:=Lib.hid hgw
 have HS:=Lib.hid hs
 have hgl:=lt_of_heap hg
 have hst:∀ wx,Keeps [gw] w1 wx→wx.heap[g]?=some (.cells ((s.words.map W32)++rest).toArray 158 (0,0)):=fun wx h=>(h.block g (by have:=k1.size;omega) (by simp;omega)).trans ((k1.block g hgl (by simp)).trans hg)
 have htab:∀ wx,Keeps [gw] w1 wx→∀ i,i < 64→wx.cell? ⟨2,i,none⟩=some (.int .u32 (shaK.getD i 0:Nat)):=fun wx h=>((hk.keeps k1 (by simp) (by simp)).keeps h (by have:=hk.lt;simp;omega) (by have:=hk.lt;simp;omega)).round
 have HST:=Lib.hid hst
 have HTAB:=Lib.hid htab
 have HGL:=Lib.hid (show g < w.heap.size∧w.heap.size≤gw from ⟨hgl,by omega⟩)
 clear hp hpl hpg hs hw1 hgw hz k1 hbyte hg hk hgr hgl hst htab
 go_enter Tryz.func101,Tryz.ntmps101
 go_upto_region 1 with fail
 rw [← HW.out,← HG.out]
 go_wp2_with fail
 go_loopw [24] (fun iv wr=>∃ k:Nat,k≤16∧iv=.int .i64 k∧Wds wr gw 181 (sched p k++List.replicate (64 - k) 0)∧Keeps [gw] w1 wr) (fun iv _=>16 - (intOf iv).toNat)
 case atStart=>exact ⟨0,Nat.zero_le _,rfl,HZ.out,Keeps.refl _ _⟩
 case round =>
  obtain ⟨k,hk,rfl,hws,hkr⟩:=hrel
  have HWS:=Lib.hid hws
  have HKR:=Lib.hid hkr
  clear hws hkr
  have k0:(0:Int)≤(k:Int):=by omega
  by_cases hlt:k < 16
  ·as_aux_lemma =>
   have k1:(k:Int) < 16:=by omega
   obtain ⟨a,ha⟩:∃ a,a=(p.getD (4 * k) 0).toNat:=⟨_,rfl⟩
   obtain ⟨b,hb⟩:∃ b,b=(p.getD (4 * k+1) 0).toNat:=⟨_,rfl⟩
   obtain ⟨c,hc⟩:∃ c,c=(p.getD (4 * k+2) 0).toNat:=⟨_,rfl⟩
   obtain ⟨d,hd⟩:∃ d,d=(p.getD (4 * k+3) 0).toNat:=⟨_,rfl⟩
   have ba:a < 256:=by rw [ha];exact UInt8.toNat_lt _
   have bb:b < 256:=by rw [hb];exact UInt8.toNat_lt _
   have bc:c < 256:=by rw [hc];exact UInt8.toNat_lt _
   have bd:d < 256:=by rw [hd];exact UInt8.toNat_lt _
   have hcell:∀ wx,Keeps [gw] w1 wx→wx.cell? ⟨gp,op+4 * k,none⟩=some (.int .u8 a)∧wx.cell? ⟨gp,op+(4 * k+1),none⟩=some (.int .u8 b)∧wx.cell? ⟨gp,op+(4 * k+2),none⟩=some (.int .u8 c)∧wx.cell? ⟨gp,op+(4 * k+3),none⟩=some (.int .u8 d):=fun wx h=>by
    rw [ha,hb,hc,hd]
    exact ⟨HB.out wx h _ (by omega),HB.out wx h _ (by omega),HB.out wx h _ (by omega),HB.out wx h _ (by omega)⟩
   have HC:=Lib.hid hcell
   obtain ⟨X,hX⟩:∃ X,X=a * 16777216+b * 65536+c * 256+d:=⟨_,rfl⟩
   have eb:=be_bits ba bb bc bd
   rw [← hX] at eb
   have HX:=Lib.hid (show X=be4 p k by rw [hX,ha,hb,hc,hd];rfl)
   clear ha hb hc hd hX hcell
   go_upto_region 4 with fail
   have w0:IntKind.i64.wrap (4 * (k:Int))=4 * (k:Int):=IntWalk.i64_in _ (by omega)
   have w1':IntKind.i64.wrap (4 * (k:Int)+1)=4 * (k:Int)+1:=IntWalk.i64_in _ (by omega)
   have w2':IntKind.i64.wrap (4 * (k:Int)+2)=4 * (k:Int)+2:=IntWalk.i64_in _ (by omega)
   have w3':IntKind.i64.wrap (4 * (k:Int)+3)=4 * (k:Int)+3:=IntWalk.i64_in _ (by omega)
   have t0:(4 * (k:Int)).toNat=4 * k:=by omega
   have t1:(4 * (k:Int)+1).toNat=4 * k+1:=by omega
   have t2:(4 * (k:Int)+2).toNat=4 * k+2:=by omega
   have t3:(4 * (k:Int)+3).toNat=4 * k+3:=by omega
   have b0:(0:Int)≤4 * (k:Int):=by omega
   have b1:(0:Int)≤4 * (k:Int)+1:=by omega
   have b2:(0:Int)≤4 * (k:Int)+2:=by omega
   have b3:(0:Int)≤4 * (k:Int)+3:=by omega
   have d0:4 * (k:Int) < 64:=by omega
   have d1:4 * (k:Int)+1 < 64:=by omega
   have d2:4 * (k:Int)+2 < 64:=by omega
   have d3:4 * (k:Int)+3 < 64:=by omega
   have ua:IntKind.u32.wrap (a:Int)=(a:Int):=by rw [wrap_u32'];omega
   have ub:IntKind.u32.wrap (b:Int)=(b:Int):=by rw [wrap_u32'];omega
   have uc:IntKind.u32.wrap (c:Int)=(c:Int):=by rw [wrap_u32'];omega
   have ud:IntKind.u32.wrap (d:Int)=(d:Int):=by rw [wrap_u32'];omega
   have va:IntKind.u32.wrap ((a:Int) * 16777216)=(a:Int) * 16777216:=by rw [wrap_u32'];omega
   have vb:IntKind.u32.wrap ((b:Int) * 65536)=(b:Int) * 65536:=by rw [wrap_u32'];omega
   have vc:IntKind.u32.wrap ((c:Int) * 256)=(c:Int) * 256:=by rw [wrap_u32'];omega
   clear ba bb bc bd
   refine wp_region_held_drew (S:=(fun w'=>w'.cell? ⟨gp,op+4 * k,none⟩=some (.int .u8 a)∧w'.cell? ⟨gp,op+(4 * k+1),none⟩=some (.int .u8 b)∧w'.cell? ⟨gp,op+(4 * k+2),none⟩=some (.int .u8 c)∧w'.cell? ⟨gp,op+(4 * k+3),none⟩=some (.int .u8 d))) (by kernel_rfl) ?_ (fun hHeld=>?_)
   ·exact HC.out wr.drew HKR.out.drew
   have l64:(sched p k++List.replicate (64 - k) 0).length=64:=by rw [List.length_append,sched_length,List.length_replicate];omega
   have L64:=Lib.hid l64
   clear l64
   have cw:=HWS.out.cell k (by rw [L64.out];omega)
   have fw:=HWS.out.free k
   have kw:(k:Int) < 64:=by omega
   refine tk 0 ?_
   refine tk 1 ?_
   refine tk 2 ?_
   refine tk 3 ?_
   refine tk 4 ?_
   refine tk 5 ?_
   refine tk 6 ?_
   refine tk 7 ?_
   refine tk 8 ?_
   refine tk 9 ?_
   refine tk 10 ?_
   refine tk 11 ?_
   refine tk 12 ?_
   refine tk 13 ?_
   refine tk 14 ?_
   refine tk 15 ?_
   refine tk 16 ?_
   refine tk 17 ?_
   refine tk 18 ?_
   refine tk 19 ?_
   refine tk 20 ?_
   refine tk 21 ?_
   refine tk 22 ?_
   refine tk 23 ?_
   refine tk 24 ?_
   refine tk 25 ?_
   refine tk 26 ?_
   refine tk 27 ?_
   refine tk 28 ?_
   refine tk 29 ?_
   refine tk 30 ?_
   refine tk 31 ?_
   refine tk 32 ?_
   refine tk 33 ?_
   refine tk 34 ?_
   refine ac 35 fun K hK=>?_
   go_simp
   refine hK.out _ _ ?_ (fun hHeld=>?_)
   ·exact HC.out _ ((HKR.out.setCell (.inl (by simp)) _).drew)
   clear hK K
   try simp only [zA,zB,zC,zD,zE,zF,zG,zH]
   refine wpAnyH_done (by kernel_rfl) ?_ _
   clear hHeld
   go_wp2_with fail
   go_roundw
   case rel =>
    refine ⟨k+1,by omega,by go_num,?_,(HKR.out.setCell (.inl (by simp)) _).drew⟩
    have h:=HWS.out.set k X
    rw [sched_set (by omega)] at h
    rw [sched_succ_lt hlt,← HX.out]
    exact h
   case measure=>simp [intOf];omega
  ·have k1:¬ (k:Int) < 16:=by omega
   obtain rfl:k=16:=by omega
   have HW16:=Lib.hid HWS.out
   go_wp2_with fail
   go_loopw [6] (fun iv wr=>∃ k:Nat,16≤k∧k≤64∧iv=.int .i64 k∧Wds wr gw 181 (sched p k++List.replicate (64 - k) 0)∧Keeps [gw] w1 wr) (fun iv _=>64 - (intOf iv).toNat)
   case atStart=>exact ⟨16,by omega,by omega,rfl,HW16.out,HKR.out⟩
   case round =>
    obtain ⟨k,hk16,hk,rfl,hws,hkr⟩:=hrel
    have HWS:=Lib.hid hws
    have HKR:=Lib.hid hkr
    clear hws hkr k1 k0 HW16
    have k0:(0:Int)≤(k:Int):=by omega
    by_cases hlt:k < 64
    ·as_aux_lemma =>
     have k1:(k:Int) < 64:=by omega
     have l64:(sched p k++List.replicate (64 - k) 0).length=64:=by rw [List.length_append,sched_length,List.length_replicate];omega
     have L64:=Lib.hid l64
     have hcell:∀ wx,Keeps [] wr wx→∀ j,j < 64→wx.cell? ⟨gw,j,none⟩=some (.int .u32 ((sched p k++List.replicate (64 - k) 0).getD j 0:Nat)):=fun wx hkx j hj=>(HWS.out.keeps hkx (by simp)).cell j (by rw [L64.out];exact hj)
     have hgd:∀ j,j < k→(sched p k++List.replicate (64 - k) 0).getD j 0=(sched p k).getD j 0:=fun j hj=>by
      rw [List.getD_eq_getElem?_getD,List.getElem?_append_left (by rw [sched_length];exact hj),← List.getD_eq_getElem?_getD]
     have hltw:∀ j,j < k→(sched p k).getD j 0 < 4294967296:=fun j hj=>by
      rw [List.getD_eq_getElem?_getD,List.getElem?_eq_getElem (by rw [sched_length];exact hj)]
      exact sched_lt p k _ (List.getElem_mem _)
     obtain ⟨k2,i2⟩:∃ j:Nat,(k:Int) - 2=(j:Int):=⟨k - 2,by omega⟩
     obtain ⟨k7,i7⟩:∃ j:Nat,(k:Int) - 7=(j:Int):=⟨k - 7,by omega⟩
     obtain ⟨k15,i15⟩:∃ j:Nat,(k:Int) - 15=(j:Int):=⟨k - 15,by omega⟩
     obtain ⟨k16,i16⟩:∃ j:Nat,(k:Int) - 16=(j:Int):=⟨k - 16,by omega⟩
     obtain ⟨x,hx⟩:∃ x,x=(sched p k).getD k2 0:=⟨_,rfl⟩
     obtain ⟨v,hv⟩:∃ x,x=(sched p k).getD k7 0:=⟨_,rfl⟩
     obtain ⟨y,hy⟩:∃ x,x=(sched p k).getD k15 0:=⟨_,rfl⟩
     obtain ⟨z,hz⟩:∃ x,x=(sched p k).getD k16 0:=⟨_,rfl⟩
     have bx:x < 4294967296:=by rw [hx];exact hltw _ (by omega)
     have bv:v < 4294967296:=by rw [hv];exact hltw _ (by omega)
     have by':y < 4294967296:=by rw [hy];exact hltw _ (by omega)
     have bz:z < 4294967296:=by rw [hz];exact hltw _ (by omega)
     have cells:∀ wx,Keeps [] wr wx→wx.cell? ⟨gw,k2,none⟩=some (.int .u32 x)∧wx.cell? ⟨gw,k7,none⟩=some (.int .u32 v)∧wx.cell? ⟨gw,k15,none⟩=some (.int .u32 y)∧wx.cell? ⟨gw,k16,none⟩=some (.int .u32 z):=fun wx hkx=>by
      rw [hx,hv,hy,hz,← hgd k2 (by omega),← hgd k7 (by omega),← hgd k15 (by omega),← hgd k16 (by omega)]
      exact ⟨hcell wx hkx _ (by omega),hcell wx hkx _ (by omega),hcell wx hkx _ (by omega),hcell wx hkx _ (by omega)⟩
     have HC:=Lib.hid cells
     have R17:∀ wx,Calls Tryz.prog 115 #[.int .u32 x,.int .i64 (-17)] wx fun e w'=>e=.returned (.int .u32 (rotl x 15))∧wx=w':=fun wx=>rot_any x 15 (-17) bx (by rfl) (by omega) (by omega)
     have R19:∀ wx,Calls Tryz.prog 115 #[.int .u32 x,.int .i64 (-19)] wx fun e w'=>e=.returned (.int .u32 (rotl x 13))∧wx=w':=fun wx=>rot_any x 13 (-19) bx (by rfl) (by omega) (by omega)
     have R7:∀ wx,Calls Tryz.prog 115 #[.int .u32 y,.int .i64 (-7)] wx fun e w'=>e=.returned (.int .u32 (rotl y 25))∧wx=w':=fun wx=>rot_any y 25 (-7) by' (by rfl) (by omega) (by omega)
     have R18:∀ wx,Calls Tryz.prog 115 #[.int .u32 y,.int .i64 (-18)] wx fun e w'=>e=.returned (.int .u32 (rotl y 14))∧wx=w':=fun wx=>rot_any y 14 (-18) by' (by rfl) (by omega) (by omega)
     obtain ⟨A1,hA1⟩:∃ a,a=rotl x 15:=⟨_,rfl⟩
     obtain ⟨A2,hA2⟩:∃ a,a=rotl x 13:=⟨_,rfl⟩
     obtain ⟨A3,hA3⟩:∃ a,a=rotl y 25:=⟨_,rfl⟩
     obtain ⟨A4,hA4⟩:∃ a,a=rotl y 14:=⟨_,rfl⟩
     rw [← hA1] at R17
     rw [← hA2] at R19
     rw [← hA3] at R7
     rw [← hA4] at R18
     have ba1:A1 < 4294967296:=by rw [hA1];exact rotl_lt _ _ bx
     have ba2:A2 < 4294967296:=by rw [hA2];exact rotl_lt _ _ bx
     have ba3:A3 < 4294967296:=by rw [hA3];exact rotl_lt _ _ by'
     have ba4:A4 < 4294967296:=by rw [hA4];exact rotl_lt _ _ by'
     obtain ⟨B1,hB1⟩:∃ a,a=A1 ^^^ A2:=⟨_,rfl⟩
     obtain ⟨B2,hB2⟩:∃ a,a=A3 ^^^ A4:=⟨_,rfl⟩
     have bb1:B1 < 4294967296:=by rw [hB1];exact xor_lt32 ba1 ba2
     have bb2:B2 < 4294967296:=by rw [hB2];exact xor_lt32 ba3 ba4
     have e1:=bits_xor_u32 ba1 ba2
     have e2:=bits_xor_u32 ba3 ba4
     rw [← hB1] at e1
     rw [← hB2] at e2
     obtain ⟨x10,hx10⟩:∃ a,a=x / 1024:=⟨_,rfl⟩
     obtain ⟨y3,hy3⟩:∃ a,a=y / 8:=⟨_,rfl⟩
     have e3:(x:Int) / 1024=(x10:Int):=by omega
     have e4:(y:Int) / 8=(y3:Int):=by omega
     obtain ⟨L1,hL1⟩:∃ a,a=B1 ^^^ x10:=⟨_,rfl⟩
     obtain ⟨L0,hL0⟩:∃ a,a=B2 ^^^ y3:=⟨_,rfl⟩
     have e5:=bits_xor_u32 bb1 (show x10 < 4294967296 by omega)
     have e6:=bits_xor_u32 bb2 (show y3 < 4294967296 by omega)
     rw [← hL1] at e5
     rw [← hL0] at e6
     obtain ⟨T1,hT1⟩:∃ a,a=(L1+v) % 4294967296:=⟨_,rfl⟩
     obtain ⟨T2,hT2⟩:∃ a,a=(T1+L0) % 4294967296:=⟨_,rfl⟩
     obtain ⟨T3,hT3⟩:∃ a,a=(T2+z) % 4294967296:=⟨_,rfl⟩
     have u1:IntKind.u32.wrap ((L1:Int)+(v:Int))=(T1:Int):=by rw [wrap_u32'];omega
     have u2:IntKind.u32.wrap ((T1:Int)+(L0:Int))=(T2:Int):=by rw [wrap_u32'];omega
     have u3:IntKind.u32.wrap ((T2:Int)+(z:Int))=(T3:Int):=by rw [wrap_u32'];omega
     have hT:T3=shaNext (sched p k):=by
      have q2:k2=k - 2:=by omega
      have q7:k7=k - 7:=by omega
      have q15:k15=k - 15:=by omega
      have q16:k16=k - 16:=by omega
      unfold shaNext shaS1 shaS0
      rw [sched_length,← q2,← q7,← q15,← q16,← hx,← hv,← hy,← hz,← hA1,← hA2,← hA3,← hA4,← hB1,← hB2,← hx10,← hy3,← hL1,← hL0]
      omega
     have HT:=Lib.hid hT
     have wk2:IntKind.i64.wrap (k2:Int)=(k2:Int):=IntWalk.i64_in _ (by omega)
     have wk7:IntKind.i64.wrap (k7:Int)=(k7:Int):=IntWalk.i64_in _ (by omega)
     have wk15:IntKind.i64.wrap (k15:Int)=(k15:Int):=IntWalk.i64_in _ (by omega)
     have wk16:IntKind.i64.wrap (k16:Int)=(k16:Int):=IntWalk.i64_in _ (by omega)
     have p2:(k2:Int) < 64:=by omega
     have p7:(k7:Int) < 64:=by omega
     have p15:(k15:Int) < 64:=by omega
     have p16:(k16:Int) < 64:=by omega
     have HNE:=Lib.hid (show k7≠k∧k16≠k by omega)
     have HR17:=Lib.hid R17
     have HR19:=Lib.hid R19
     have HR7:=Lib.hid R7
     have HR18:=Lib.hid R18
     clear l64 hcell hgd hltw cells hx hv hy hz bx bv by' bz R17 R19 R7 R18 hA1 hA2 hA3 hA4 ba1 ba2 ba3 ba4 hB1 hB2 bb1 bb2 hx10 hy3 hL1 hL0 hT1 hT2 hT3 hT
     go_upto_region 9 with fail
     refine wp_region_held_drew (S:=(fun w'=>w'.cell? ⟨gw,k2,none⟩=some (.int .u32 x)∧w'.cell? ⟨gw,k15,none⟩=some (.int .u32 y))) (by kernel_rfl) ?_ (fun hHeld=>?_)
     ·have h:=HC.out wr.drew (Keeps.refl _ _).drew
      exact ⟨h.1,h.2.2.1⟩
     refine tk 0 ?_
     refine tk 1 ?_
     refine tk 2 ?_
     refine tk 3 ?_
     refine tk 4 ?_
     refine tk 5 ?_
     refine tk 6 ?_
     refine tk 7 ?_
     refine tk 8 ?_
     refine tk 9 ?_
     refine wpAnyH_done (by kernel_rfl) ?_ _
     clear hHeld
     go_upto_region 12 with (first | (go_at_call 115;((with_reducible refine (HR17.out _).mono ?_);rintro e w' ⟨rfl,rfl⟩)) | (go_at_call 115;((with_reducible refine (HR19.out _).mono ?_);rintro e w' ⟨rfl,rfl⟩)) | (go_at_call 115;((with_reducible refine (HR7.out _).mono ?_);rintro e w' ⟨rfl,rfl⟩)) | (go_at_call 115;((with_reducible refine (HR18.out _).mono ?_);rintro e w' ⟨rfl,rfl⟩)))
     have cw:=HWS.out.cell k (by rw [L64.out];omega)
     have fw:=HWS.out.free k
     refine wp_region_held_drew (S:=(fun w'=>w'.cell? ⟨gw,k7,none⟩=some (.int .u32 v)∧w'.cell? ⟨gw,k16,none⟩=some (.int .u32 z))) (by kernel_rfl) ?_ (fun hHeld=>?_)
     ·have h:=HC.out wr.drew.drew (Keeps.refl _ _).drew.drew
      exact ⟨h.2.1,h.2.2.2⟩
     refine tk 0 ?_
     refine tk 1 ?_
     refine tk 2 ?_
     refine tk 3 ?_
     refine tk 4 ?_
     refine tk 5 ?_
     refine tk 6 ?_
     refine tk 7 ?_
     refine tk 8 ?_
     refine tk 9 ?_
     refine tk 10 ?_
     refine tk 11 ?_
     refine tk 12 ?_
     refine tk 13 ?_
     refine tk 14 ?_
     refine ac 15 fun K hK=>?_
     go_simp
     refine hK.out _ _ ?_ (fun hHeld=>?_)
     ·have h:=HC.out wr (Keeps.refl _ _)
      exact ⟨(cell_set_off _ HNE.out.1).trans h.2.1,(cell_set_off _ HNE.out.2).trans h.2.2.2⟩
     clear hK K
     try simp only [zA,zB,zC,zD,zE,zF,zG,zH]
     refine wpAnyH_done (by kernel_rfl) ?_ _
     clear hHeld
     go_wp2_with fail
     go_roundw
     case rel =>
      refine ⟨k+1,by omega,by omega,by go_num,?_,(HKR.out.setCell (.inl (by simp)) _).drew.drew⟩
      have h:=HWS.out.set k T3
      rw [sched_set (by omega)] at h
      rw [sched_succ_ge hk16,← HT.out]
      exact h
     case measure=>simp [intOf];omega
    ·have k1:¬ (k:Int) < 64:=by omega
     obtain rfl:k=64:=by omega
     have HW64:=Lib.hid (show Wds wr gw 181 (sched p 64) by have h:=HWS.out;rw [Nat.sub_self,List.replicate_zero,List.append_nil] at h;exact h)
     clear k1 k0 hlt hk hk16
     obtain ⟨s0,s1,s2,s3,s4,s5,s6,s7⟩:=s
     obtain ⟨o0,o1,o2,o3,o4,o5,o6,o7⟩:=HS.out
     dsimp only at o0 o1 o2 o3 o4 o5 o6 o7
     have hcs:∀ wx,Keeps [gw] w1 wx→wx.cell? ⟨g,0,none⟩=some (.int .u32 s0)∧wx.cell? ⟨g,1,none⟩=some (.int .u32 s1)∧wx.cell? ⟨g,2,none⟩=some (.int .u32 s2)∧wx.cell? ⟨g,3,none⟩=some (.int .u32 s3)∧wx.cell? ⟨g,4,none⟩=some (.int .u32 s4)∧wx.cell? ⟨g,5,none⟩=some (.int .u32 s5)∧wx.cell? ⟨g,6,none⟩=some (.int .u32 s6)∧wx.cell? ⟨g,7,none⟩=some (.int .u32 s7):=fun wx h=>by
      have hh:=HST.out wx h
      exact ⟨cell_sets_of' hh rfl,cell_sets_of' hh rfl,cell_sets_of' hh rfl,cell_sets_of' hh rfl,cell_sets_of' hh rfl,cell_sets_of' hh rfl,cell_sets_of' hh rfl,cell_sets_of' hh rfl⟩
     have HCS:=Lib.hid hcs
     clear hcs o0 o1 o2 o3 o4 o5 o6 o7
     go_upto_region 13 with fail
     refine wp_region_held_drew (S:=(fun wx=>wx.cell? ⟨g,0,none⟩=some (.int .u32 s0)∧wx.cell? ⟨g,1,none⟩=some (.int .u32 s1)∧wx.cell? ⟨g,2,none⟩=some (.int .u32 s2)∧wx.cell? ⟨g,3,none⟩=some (.int .u32 s3)∧wx.cell? ⟨g,4,none⟩=some (.int .u32 s4)∧wx.cell? ⟨g,5,none⟩=some (.int .u32 s5)∧wx.cell? ⟨g,6,none⟩=some (.int .u32 s6)∧wx.cell? ⟨g,7,none⟩=some (.int .u32 s7))) (by kernel_rfl) ?_ (fun hHeld=>?_)
     ·exact HCS.out wr.drew HKR.out.drew
     refine tk 0 ?_
     refine tk 1 ?_
     refine tk 2 ?_
     refine tk 3 ?_
     refine tk 4 ?_
     refine tk 5 ?_
     refine tk 6 ?_
     refine tk 7 ?_
     refine tk 8 ?_
     refine tk 9 ?_
     refine tk 10 ?_
     refine tk 11 ?_
     refine tk 12 ?_
     refine tk 13 ?_
     refine tk 14 ?_
     refine tk 15 ?_
     refine tk 16 ?_
     refine tk 17 ?_
     refine tk 18 ?_
     refine tk 19 ?_
     refine tk 20 ?_
     refine tk 21 ?_
     refine tk 22 ?_
     refine tk 23 ?_
     refine tk 24 ?_
     refine tk 25 ?_
     refine tk 26 ?_
     refine tk 27 ?_
     refine tk 28 ?_
     refine tk 29 ?_
     refine tk 30 ?_
     refine tk 31 ?_
     refine tk 32 ?_
     refine tk 33 ?_
     refine tk 34 ?_
     refine tk 35 ?_
     refine tk 36 ?_
     refine tk 37 ?_
     refine tk 38 ?_
     refine tk 39 ?_
     refine tk 40 ?_
     refine tk 41 ?_
     refine tk 42 ?_
     refine tk 43 ?_
     refine tk 44 ?_
     refine tk 45 ?_
     refine tk 46 ?_
     refine tk 47 ?_
     refine wpAnyH_done (by kernel_rfl) ?_ _
     clear hHeld
     go_wp2_with fail
     obtain ⟨wo,hwo⟩:∃ x,x=wr.drew:=⟨_,rfl⟩
     rw [← hwo]
     have HWo:=Lib.hid (show Wds wo gw 181 (sched p 64) by rw [hwo];exact HW64.out)
     have HKo:=Lib.hid (show Keeps [gw] w1 wo by rw [hwo];exact HKR.out.drew)
     clear hwo HW64 HKR HWS
     go_loopw [11,12,13,14,15,16,17,18,146] (fun va vb vc vd ve vf vg vh iv wr=>∃ (k:Nat) (r:S8),k≤64∧r=shaRun ⟨s0,s1,s2,s3,s4,s5,s6,s7⟩ (sched p 64) k∧va=.int .u32 r.a∧vb=.int .u32 r.b∧vc=.int .u32 r.c∧vd=.int .u32 r.d∧ve=.int .u32 r.e∧vf=.int .u32 r.f∧vg=.int .u32 r.g∧vh=.int .u32 r.h∧iv=.int .i64 k∧Keeps [] wo wr) (fun _ _ _ _ _ _ _ _ iv _=>64 - (intOf iv).toNat)
     case atStart=>exact ⟨0,_,Nat.zero_le _,rfl,rfl,rfl,rfl,rfl,rfl,rfl,rfl,rfl,rfl,Keeps.refl _ _⟩
     case round =>
      obtain ⟨k,r,hk,hr,rfl,rfl,rfl,rfl,rfl,rfl,rfl,rfl,rfl,hkr⟩:=hrel
      have HR:=Lib.hid hr
      have HOK:=Lib.hid (show r.ok by rw [hr];exact shaRun_ok HS.out _ _)
      have HKR:=Lib.hid hkr
      clear hr hkr
      have k0:(0:Int)≤(k:Int):=by omega
      by_cases hlt:k < 64
      ·as_aux_lemma =>
       have k1:(k:Int) < 64:=by omega
       obtain ⟨ra,rb,rc,rd,re,rf,rg,rh⟩:=r
       obtain ⟨ba,bb,bc,bd,be,bf,bg,bh⟩:=HOK.out
       dsimp only at ba bb bc bd be bf bg bh ⊢
       obtain ⟨K,hK⟩:∃ a,a=shaK.getD k 0:=⟨_,rfl⟩
       obtain ⟨Wk,hWk⟩:∃ a,a=(sched p 64).getD k 0:=⟨_,rfl⟩
       have bK:K < 4294967296:=by rw [hK];exact shaK_lt k hlt
       have bW:Wk < 4294967296:=by
        rw [hWk,List.getD_eq_getElem?_getD,List.getElem?_eq_getElem (by rw [sched_length];exact hlt)]
        exact sched_lt p 64 _ (List.getElem_mem _)
       have cells:∀ wx,Keeps [] wr wx→wx.cell? ⟨2,k,none⟩=some (.int .u32 K)∧wx.cell? ⟨gw,k,none⟩=some (.int .u32 Wk):=fun wx h=>by
        rw [hK,hWk]
        exact ⟨HTAB.out wx (HKo.out.trans (G:=[]) (HKR.out.trans (G:=[]) h (by simp)) (by simp)) k hlt,(HWo.out.keeps (HKR.out.trans (G:=[]) h (by simp)) (by simp)).cell k (by rw [sched_length];exact hlt)⟩
       have HC:=Lib.hid cells
       have R6:∀ wx,Calls Tryz.prog 115 #[.int .u32 re,.int .i64 (-6)] wx fun e w'=>e=.returned (.int .u32 (rotl re 26))∧wx=w':=fun wx=>rot_any re 26 (-6) be (by rfl) (by omega) (by omega)
       have R11:∀ wx,Calls Tryz.prog 115 #[.int .u32 re,.int .i64 (-11)] wx fun e w'=>e=.returned (.int .u32 (rotl re 21))∧wx=w':=fun wx=>rot_any re 21 (-11) be (by rfl) (by omega) (by omega)
       have R25:∀ wx,Calls Tryz.prog 115 #[.int .u32 re,.int .i64 (-25)] wx fun e w'=>e=.returned (.int .u32 (rotl re 7))∧wx=w':=fun wx=>rot_any re 7 (-25) be (by rfl) (by omega) (by omega)
       have R2:∀ wx,Calls Tryz.prog 115 #[.int .u32 ra,.int .i64 (-2)] wx fun e w'=>e=.returned (.int .u32 (rotl ra 30))∧wx=w':=fun wx=>rot_any ra 30 (-2) ba (by rfl) (by omega) (by omega)
       have R13:∀ wx,Calls Tryz.prog 115 #[.int .u32 ra,.int .i64 (-13)] wx fun e w'=>e=.returned (.int .u32 (rotl ra 19))∧wx=w':=fun wx=>rot_any ra 19 (-13) ba (by rfl) (by omega) (by omega)
       have R22:∀ wx,Calls Tryz.prog 115 #[.int .u32 ra,.int .i64 (-22)] wx fun e w'=>e=.returned (.int .u32 (rotl ra 10))∧wx=w':=fun wx=>rot_any ra 10 (-22) ba (by rfl) (by omega) (by omega)
       obtain ⟨A1,hA1⟩:∃ a,a=rotl re 26:=⟨_,rfl⟩
       obtain ⟨A2,hA2⟩:∃ a,a=rotl re 21:=⟨_,rfl⟩
       obtain ⟨A3,hA3⟩:∃ a,a=rotl re 7:=⟨_,rfl⟩
       obtain ⟨B1,hB1⟩:∃ a,a=rotl ra 30:=⟨_,rfl⟩
       obtain ⟨B2,hB2⟩:∃ a,a=rotl ra 19:=⟨_,rfl⟩
       obtain ⟨B3,hB3⟩:∃ a,a=rotl ra 10:=⟨_,rfl⟩
       rw [← hA1] at R6
       rw [← hA2] at R11
       rw [← hA3] at R25
       rw [← hB1] at R2
       rw [← hB2] at R13
       rw [← hB3] at R22
       have ba1:A1 < 4294967296:=by rw [hA1];exact rotl_lt _ _ be
       have ba2:A2 < 4294967296:=by rw [hA2];exact rotl_lt _ _ be
       have ba3:A3 < 4294967296:=by rw [hA3];exact rotl_lt _ _ be
       have bb1:B1 < 4294967296:=by rw [hB1];exact rotl_lt _ _ ba
       have bb2:B2 < 4294967296:=by rw [hB2];exact rotl_lt _ _ ba
       have bb3:B3 < 4294967296:=by rw [hB3];exact rotl_lt _ _ ba
       obtain ⟨X1,hX1⟩:∃ a,a=A1 ^^^ A2:=⟨_,rfl⟩
       have bX1:X1 < 4294967296:=by rw [hX1];exact xor_lt32 ba1 ba2
       obtain ⟨X2,hX2⟩:∃ a,a=X1 ^^^ A3:=⟨_,rfl⟩
       have e1:=bits_xor_u32 ba1 ba2
       have e2:=bits_xor_u32 bX1 ba3
       rw [← hX1] at e1
       rw [← hX2] at e2
       obtain ⟨F1,hF1⟩:∃ a,a=rf ^^^ rg:=⟨_,rfl⟩
       have bF1:F1 < 4294967296:=by rw [hF1];exact xor_lt32 bf bg
       obtain ⟨F2,hF2⟩:∃ a,a=re &&& F1:=⟨_,rfl⟩
       have bF2:F2 < 4294967296:=by rw [hF2];exact and_lt32 bF1
       obtain ⟨F3,hF3⟩:∃ a,a=rg ^^^ F2:=⟨_,rfl⟩
       have e3:=bits_xor_u32 bf bg
       have e4:=bits_and_u32 be bF1
       have e5:=bits_xor_u32 bg bF2
       rw [← hF1] at e3
       rw [← hF2] at e4
       rw [← hF3] at e5
       obtain ⟨H1,hH1⟩:∃ a,a=(rh+X2) % 4294967296:=⟨_,rfl⟩
       obtain ⟨H2,hH2⟩:∃ a,a=(H1+F3) % 4294967296:=⟨_,rfl⟩
       obtain ⟨H3,hH3⟩:∃ a,a=(H2+K) % 4294967296:=⟨_,rfl⟩
       obtain ⟨ON,hON⟩:∃ a,a=(H3+Wk) % 4294967296:=⟨_,rfl⟩
       have u1:IntKind.u32.wrap ((rh:Int)+(X2:Int))=(H1:Int):=by rw [wrap_u32'];omega
       have u2:IntKind.u32.wrap ((H1:Int)+(F3:Int))=(H2:Int):=by rw [wrap_u32'];omega
       have u3:IntKind.u32.wrap ((H2:Int)+(K:Int))=(H3:Int):=by rw [wrap_u32'];omega
       have u4:IntKind.u32.wrap ((H3:Int)+(Wk:Int))=(ON:Int):=by rw [wrap_u32'];omega
       obtain ⟨Y1,hY1⟩:∃ a,a=B1 ^^^ B2:=⟨_,rfl⟩
       have bY1:Y1 < 4294967296:=by rw [hY1];exact xor_lt32 bb1 bb2
       obtain ⟨Y2,hY2⟩:∃ a,a=Y1 ^^^ B3:=⟨_,rfl⟩
       have e6:=bits_xor_u32 bb1 bb2
       have e7:=bits_xor_u32 bY1 bb3
       rw [← hY1] at e6
       rw [← hY2] at e7
       obtain ⟨M1,hM1⟩:∃ a,a=ra &&& rb:=⟨_,rfl⟩
       obtain ⟨M2,hM2⟩:∃ a,a=ra ||| rb:=⟨_,rfl⟩
       have bM1:M1 < 4294967296:=by rw [hM1];exact and_lt32 bb
       have bM2:M2 < 4294967296:=by rw [hM2];exact or_lt32 ba bb
       obtain ⟨M3,hM3⟩:∃ a,a=rc &&& M2:=⟨_,rfl⟩
       have bM3:M3 < 4294967296:=by rw [hM3];exact and_lt32 bM2
       obtain ⟨M4,hM4⟩:∃ a,a=M1 ||| M3:=⟨_,rfl⟩
       have e8:=bits_and_u32 ba bb
       have e9:=bits_or_u32 ba bb
       have e10:=bits_and_u32 bc bM2
       have e11:=bits_or_u32 bM1 bM3
       rw [← hM1] at e8
       rw [← hM2] at e9
       rw [← hM3] at e10
       rw [← hM4] at e11
       obtain ⟨TW,hTW⟩:∃ a,a=(Y2+M4) % 4294967296:=⟨_,rfl⟩
       obtain ⟨ND,hND⟩:∃ a,a=(rd+ON) % 4294967296:=⟨_,rfl⟩
       obtain ⟨NA,hNA⟩:∃ a,a=(ON+TW) % 4294967296:=⟨_,rfl⟩
       have m1:((Y2:Int)+(M4:Int)) % 4294967296=(TW:Int):=by omega
       have m2:((rd:Int)+(ON:Int)) % 4294967296=(ND:Int):=by omega
       have m3:((ON:Int)+(TW:Int)) % 4294967296=(NA:Int):=by omega
       have hnew:(⟨NA,ra,rb,rc,ND,re,rf,rg⟩:S8)=shaRun ⟨s0,s1,s2,s3,s4,s5,s6,s7⟩ (sched p 64) (k+1):=by
        have hO:ON=shaOne ⟨ra,rb,rc,rd,re,rf,rg,rh⟩ K Wk:=by
         unfold shaOne shaB1 shaCh
         dsimp only
         rw [← hA1,← hA2,← hA3,← hX1,← hX2,← hF1,← hF2,← hF3]
         omega
        have hT:TW=shaTwo ⟨ra,rb,rc,rd,re,rf,rg,rh⟩:=by
         unfold shaTwo shaB0 shaMaj
         dsimp only
         rw [← hB1,← hB2,← hB3,← hY1,← hY2,← hM1,← hM2,← hM3,← hM4,hTW]
        rw [shaRun,← HR.out,← hK,← hWk,shaRound,← hO,← hT,← hND,← hNA]
       have HNEW:=Lib.hid hnew
       have HR6:=Lib.hid R6
       have HR11:=Lib.hid R11
       have HR25:=Lib.hid R25
       have HR2:=Lib.hid R2
       have HR13:=Lib.hid R13
       have HR22:=Lib.hid R22
       clear hK hWk bK bW cells R6 R11 R25 R2 R13 R22 hA1 hA2 hA3 hB1 hB2 hB3 ba1 ba2 ba3 bb1 bb2 bb3 hX1 bX1 hX2 hF1 bF1 hF2 bF2 hF3 hH1 hH2 hH3 hON hY1 bY1 hY2 hM1 hM2 bM1 bM2 hM3 bM3 hM4 hTW hND hNA hnew ba bb bc bd be bf bg bh
       go_upto_region 17 with fail
       refine wp_region_held_drew (S:=(fun wx=>wx.cell? ⟨2,k,none⟩=some (.int .u32 K)∧wx.cell? ⟨gw,k,none⟩=some (.int .u32 Wk))) (by kernel_rfl) ?_ (fun hHeld=>?_)
       ·exact HC.out wr.drew (Keeps.refl _ _).drew
       refine tk 0 ?_
       refine tk 1 ?_
       refine hc_take (i:=2) (v:=.int .u32 A1) rfl (by kernel_rfl) (by kernel_rfl) (by kernel_rfl) (fun _ _ _ h=>h) (yieldsC_call (by rfl) 115 _ _ rfl Tryz.f115 Tryz.func115 (by kernel_rfl) rfl #[.int .u32 re,.int .i64 (-6)] (by simp [Act.eval]) (fun w0 _=>HR6.out w0)) (by assumption) ?_
       try simp only [zA,zB,zC,zD,zE,zF,zG,zH]
       refine tk 3 ?_
       refine hc_take (i:=4) (v:=.int .u32 A2) rfl (by kernel_rfl) (by kernel_rfl) (by kernel_rfl) (fun _ _ _ h=>h) (yieldsC_call (by rfl) 115 _ _ rfl Tryz.f115 Tryz.func115 (by kernel_rfl) rfl #[.int .u32 re,.int .i64 (-11)] (by simp [Act.eval]) (fun w0 _=>HR11.out w0)) (by assumption) ?_
       try simp only [zA,zB,zC,zD,zE,zF,zG,zH]
       refine tk 5 ?_
       refine tk 6 ?_
       refine hc_take (i:=7) (v:=.int .u32 A3) rfl (by kernel_rfl) (by kernel_rfl) (by kernel_rfl) (fun _ _ _ h=>h) (yieldsC_call (by rfl) 115 _ _ rfl Tryz.f115 Tryz.func115 (by kernel_rfl) rfl #[.int .u32 re,.int .i64 (-25)] (by simp [Act.eval]) (fun w0 _=>HR25.out w0)) (by assumption) ?_
       try simp only [zA,zB,zC,zD,zE,zF,zG,zH]
       refine tk 8 ?_
       refine tk 9 ?_
       refine tk 10 ?_
       refine tk 11 ?_
       refine tk 12 ?_
       refine tk 13 ?_
       refine tk 14 ?_
       refine tk 15 ?_
       refine tk 16 ?_
       refine tk 17 ?_
       refine tk 18 ?_
       refine tk 19 ?_
       refine tk 20 ?_
       refine tk 21 ?_
       refine tk 22 ?_
       refine tk 23 ?_
       refine tk 24 ?_
       refine tk 25 ?_
       refine tk 26 ?_
       refine wpAnyH_done (by kernel_rfl) ?_ _
       clear hHeld
       go_wp2_with (first | (go_at_call 115;((with_reducible refine (HR2.out _).mono ?_);rintro e w' ⟨rfl,rfl⟩)) | (go_at_call 115;((with_reducible refine (HR13.out _).mono ?_);rintro e w' ⟨rfl,rfl⟩)) | (go_at_call 115;((with_reducible refine (HR22.out _).mono ?_);rintro e w' ⟨rfl,rfl⟩)))
       go_roundw
       case rel =>
        (repeat apply Exists.intro)
        refine ⟨⟨k+1,_,?_,HNEW.out,?_,rfl,rfl,rfl,?_,rfl,rfl,rfl,?_,?_⟩,rfl⟩
        ·omega
        ·exact congrArg (Value.int .u32) m3
        ·exact congrArg (Value.int .u32) m2
        ·go_num
        ·exact HKR.out.drew
       case measure=>simp [intOf];omega
      ·have k1:¬ (k:Int) < 64:=by omega
       obtain rfl:k=64:=by omega
       obtain ⟨r0,r1,r2,r3,r4,r5,r6,r7⟩:=r
       obtain ⟨wz,rfl⟩:∃ x:World,x=wr:=⟨_,rfl⟩
       have HFIN:=Lib.hid (show shaBlock ⟨s0,s1,s2,s3,s4,s5,s6,s7⟩ p=S8.add ⟨s0,s1,s2,s3,s4,s5,s6,s7⟩ ⟨r0,r1,r2,r3,r4,r5,r6,r7⟩ by rw [HR.out];rfl)
       dsimp only
       have hst:=HST.out wz (HKo.out.trans (G:=[]) HKR.out (by simp))
       have hh0:wz.heap[g]?=some (.cells (((addW [s0,s1,s2,s3,s4,s5,s6,s7] [r0,r1,r2,r3,r4,r5,r6,r7] 0).map W32)++rest).toArray 158 (0,0)):=hst
       have HH0:=Lib.hid hh0
       have HKW:=Lib.hid (HKo.out.trans (G:=[]) HKR.out (by simp))
       clear hst hh0 k1 k0 hlt hk HKo HWo HTAB HST HCS HOK HR
       go_wp2_with fail
       go_loopw [215] (fun iv wx=>∃ k:Nat,k≤8∧iv=.int .i64 k∧wx.heap[g]?=some (.cells (((addW [s0,s1,s2,s3,s4,s5,s6,s7] [r0,r1,r2,r3,r4,r5,r6,r7] k).map W32)++rest).toArray 158 (0,0))∧Keeps [g] wz wx) (fun iv _=>8 - (intOf iv).toNat)
       case atStart=>exact ⟨0,by omega,rfl,HH0.out,Keeps.refl _ _⟩
       case round =>
        obtain ⟨k,hk,rfl,hh,hkx⟩:=hrel
        have HH:=Lib.hid hh
        have HKX:=Lib.hid hkx
        clear hh hkx
        match k,hk with
        | 0,_=>as_aux_lemma =>
         obtain ⟨N,hN⟩:∃ a,a=(s0+r0) % 4294967296:=⟨_,rfl⟩
         have u1:IntKind.u32.wrap ((s0:Int)+(r0:Int))=(N:Int):=by rw [wrap_u32'];omega
         have i1:∀ w,(Instr.index 154 (.agg #[.int .u32 r0,.int .u32 r1,.int .u32 r2,.int .u32 r3,.int .u32 r4,.int .u32 r5,.int .u32 r6,.int .u32 r7]) (.int .i64 ((0:Nat):Int))).run Tryz.prog w=.ok (.int .u32 r0) w:=fun _=>by kernel_rfl
         have HN:=Lib.hid (add_cell (x:=N) HH.out (j:=0) (by simp [addW]))
         rw [hN] at HN
         have HN':=Lib.hid hN
         have c1:wr.cell? ⟨g,0,none⟩=some (.int .u32 s0):=cell_sets_of' HH.out rfl
         have f1:=frozen_of_row wr g 0 _ _ HH.out
         clear hN
         go_upto_region 24 with (first | (refine wl_index rfl 154 (.tmp 214) (.tmp 215) rfl ?_;refine ⟨_,_,i1 _,?_⟩;try simp only [zA,zB,zC,zD,zE,zF,zG,zH]))
         refine rl_start (fun w'=>w'.cell? ⟨g,0,none⟩=some (.int .u32 s0)) 11 (by kernel_rfl) ?_ (fun hHeld=>?_)
         ·exact c1
         refine rk 0 ?_
         refine rk 1 ?_
         refine rk 2 ?_
         refine rk 3 ?_
         refine rk 4 ?_
         refine rk 5 ?_
         refine rk 6 ?_
         refine rk 7 ?_
         refine rl_act (i:=8) (by kernel_rfl) rfl (fun K hK=>?_)
         go_simp
         refine hK.out _ _ ?_ (fun hHeld=>?_)
         ·exact hHeld
         clear hK K
         try simp only [zA,zB,zC,zD,zE,zF,zG,zH]
         refine rl_act (i:=9) (by kernel_rfl) rfl (fun K hK=>?_)
         go_simp
         refine hK.out _ _ ?_ (fun hHeld=>?_)
         ·exact hHeld
         clear hK K
         try simp only [zA,zB,zC,zD,zE,zF,zG,zH]
         refine rk 10 ?_
         refine rl_last (by kernel_rfl) (by kernel_rfl) rfl (fun K hK=>?_)
         go_simp
         refine hK.out _ _ ?_
         clear hK K
         try simp only [zA,zB,zC,zD,zE,zF,zG,zH]
         clear hHeld
         go_wp2_with fail
         go_roundw
         case rel =>
          (repeat apply Exists.intro)
          refine ⟨⟨1,?_,?_,?_,?_⟩,rfl⟩
          ·omega
          ·go_num
          ·rw [HN'.out]
           exact HN.out
          ·exact (HKX.out.setCell (p:=⟨g,0,none⟩) (.inl (by simp)) _).drew
         case measure=>simp [intOf]
        | 1,_=>as_aux_lemma =>
         obtain ⟨N,hN⟩:∃ a,a=(s1+r1) % 4294967296:=⟨_,rfl⟩
         have u1:IntKind.u32.wrap ((s1:Int)+(r1:Int))=(N:Int):=by rw [wrap_u32'];omega
         have i1:∀ w,(Instr.index 154 (.agg #[.int .u32 r0,.int .u32 r1,.int .u32 r2,.int .u32 r3,.int .u32 r4,.int .u32 r5,.int .u32 r6,.int .u32 r7]) (.int .i64 ((1:Nat):Int))).run Tryz.prog w=.ok (.int .u32 r1) w:=fun _=>by kernel_rfl
         have HN:=Lib.hid (add_cell (x:=N) HH.out (j:=1) (by simp [addW]))
         rw [hN] at HN
         have HN':=Lib.hid hN
         have c1:wr.cell? ⟨g,1,none⟩=some (.int .u32 s1):=cell_sets_of' HH.out rfl
         have f1:=frozen_of_row wr g 1 _ _ HH.out
         clear hN
         go_upto_region 24 with (first | (refine wl_index rfl 154 (.tmp 214) (.tmp 215) rfl ?_;refine ⟨_,_,i1 _,?_⟩;try simp only [zA,zB,zC,zD,zE,zF,zG,zH]))
         refine rl_start (fun w'=>w'.cell? ⟨g,1,none⟩=some (.int .u32 s1)) 11 (by kernel_rfl) ?_ (fun hHeld=>?_)
         ·exact c1
         refine rk 0 ?_
         refine rk 1 ?_
         refine rk 2 ?_
         refine rk 3 ?_
         refine rk 4 ?_
         refine rk 5 ?_
         refine rk 6 ?_
         refine rk 7 ?_
         refine rl_act (i:=8) (by kernel_rfl) rfl (fun K hK=>?_)
         go_simp
         refine hK.out _ _ ?_ (fun hHeld=>?_)
         ·exact hHeld
         clear hK K
         try simp only [zA,zB,zC,zD,zE,zF,zG,zH]
         refine rl_act (i:=9) (by kernel_rfl) rfl (fun K hK=>?_)
         go_simp
         refine hK.out _ _ ?_ (fun hHeld=>?_)
         ·exact hHeld
         clear hK K
         try simp only [zA,zB,zC,zD,zE,zF,zG,zH]
         refine rk 10 ?_
         refine rl_last (by kernel_rfl) (by kernel_rfl) rfl (fun K hK=>?_)
         go_simp
         refine hK.out _ _ ?_
         clear hK K
         try simp only [zA,zB,zC,zD,zE,zF,zG,zH]
         clear hHeld
         go_wp2_with fail
         go_roundw
         case rel =>
          (repeat apply Exists.intro)
          refine ⟨⟨2,?_,?_,?_,?_⟩,rfl⟩
          ·omega
          ·go_num
          ·rw [HN'.out]
           exact HN.out
          ·exact (HKX.out.setCell (p:=⟨g,1,none⟩) (.inl (by simp)) _).drew
         case measure=>simp [intOf]
        | 2,_=>as_aux_lemma =>
         obtain ⟨N,hN⟩:∃ a,a=(s2+r2) % 4294967296:=⟨_,rfl⟩
         have u1:IntKind.u32.wrap ((s2:Int)+(r2:Int))=(N:Int):=by rw [wrap_u32'];omega
         have i1:∀ w,(Instr.index 154 (.agg #[.int .u32 r0,.int .u32 r1,.int .u32 r2,.int .u32 r3,.int .u32 r4,.int .u32 r5,.int .u32 r6,.int .u32 r7]) (.int .i64 ((2:Nat):Int))).run Tryz.prog w=.ok (.int .u32 r2) w:=fun _=>by kernel_rfl
         have HN:=Lib.hid (add_cell (x:=N) HH.out (j:=2) (by simp [addW]))
         rw [hN] at HN
         have HN':=Lib.hid hN
         have c1:wr.cell? ⟨g,2,none⟩=some (.int .u32 s2):=cell_sets_of' HH.out rfl
         have f1:=frozen_of_row wr g 2 _ _ HH.out
         clear hN
         go_upto_region 24 with (first | (refine wl_index rfl 154 (.tmp 214) (.tmp 215) rfl ?_;refine ⟨_,_,i1 _,?_⟩;try simp only [zA,zB,zC,zD,zE,zF,zG,zH]))
         refine rl_start (fun w'=>w'.cell? ⟨g,2,none⟩=some (.int .u32 s2)) 11 (by kernel_rfl) ?_ (fun hHeld=>?_)
         ·exact c1
         refine rk 0 ?_
         refine rk 1 ?_
         refine rk 2 ?_
         refine rk 3 ?_
         refine rk 4 ?_
         refine rk 5 ?_
         refine rk 6 ?_
         refine rk 7 ?_
         refine rl_act (i:=8) (by kernel_rfl) rfl (fun K hK=>?_)
         go_simp
         refine hK.out _ _ ?_ (fun hHeld=>?_)
         ·exact hHeld
         clear hK K
         try simp only [zA,zB,zC,zD,zE,zF,zG,zH]
         refine rl_act (i:=9) (by kernel_rfl) rfl (fun K hK=>?_)
         go_simp
         refine hK.out _ _ ?_ (fun hHeld=>?_)
         ·exact hHeld
         clear hK K
         try simp only [zA,zB,zC,zD,zE,zF,zG,zH]
         refine rk 10 ?_
         refine rl_last (by kernel_rfl) (by kernel_rfl) rfl (fun K hK=>?_)
         go_simp
         refine hK.out _ _ ?_
         clear hK K
         try simp only [zA,zB,zC,zD,zE,zF,zG,zH]
         clear hHeld
         go_wp2_with fail
         go_roundw
         case rel =>
          (repeat apply Exists.intro)
          refine ⟨⟨3,?_,?_,?_,?_⟩,rfl⟩
          ·omega
          ·go_num
          ·rw [HN'.out]
           exact HN.out
          ·exact (HKX.out.setCell (p:=⟨g,2,none⟩) (.inl (by simp)) _).drew
         case measure=>simp [intOf]
        | 3,_=>as_aux_lemma =>
         obtain ⟨N,hN⟩:∃ a,a=(s3+r3) % 4294967296:=⟨_,rfl⟩
         have u1:IntKind.u32.wrap ((s3:Int)+(r3:Int))=(N:Int):=by rw [wrap_u32'];omega
         have i1:∀ w,(Instr.index 154 (.agg #[.int .u32 r0,.int .u32 r1,.int .u32 r2,.int .u32 r3,.int .u32 r4,.int .u32 r5,.int .u32 r6,.int .u32 r7]) (.int .i64 ((3:Nat):Int))).run Tryz.prog w=.ok (.int .u32 r3) w:=fun _=>by kernel_rfl
         have HN:=Lib.hid (add_cell (x:=N) HH.out (j:=3) (by simp [addW]))
         rw [hN] at HN
         have HN':=Lib.hid hN
         have c1:wr.cell? ⟨g,3,none⟩=some (.int .u32 s3):=cell_sets_of' HH.out rfl
         have f1:=frozen_of_row wr g 3 _ _ HH.out
         clear hN
         go_upto_region 24 with (first | (refine wl_index rfl 154 (.tmp 214) (.tmp 215) rfl ?_;refine ⟨_,_,i1 _,?_⟩;try simp only [zA,zB,zC,zD,zE,zF,zG,zH]))
         refine rl_start (fun w'=>w'.cell? ⟨g,3,none⟩=some (.int .u32 s3)) 11 (by kernel_rfl) ?_ (fun hHeld=>?_)
         ·exact c1
         refine rk 0 ?_
         refine rk 1 ?_
         refine rk 2 ?_
         refine rk 3 ?_
         refine rk 4 ?_
         refine rk 5 ?_
         refine rk 6 ?_
         refine rk 7 ?_
         refine rl_act (i:=8) (by kernel_rfl) rfl (fun K hK=>?_)
         go_simp
         refine hK.out _ _ ?_ (fun hHeld=>?_)
         ·exact hHeld
         clear hK K
         try simp only [zA,zB,zC,zD,zE,zF,zG,zH]
         refine rl_act (i:=9) (by kernel_rfl) rfl (fun K hK=>?_)
         go_simp
         refine hK.out _ _ ?_ (fun hHeld=>?_)
         ·exact hHeld
         clear hK K
         try simp only [zA,zB,zC,zD,zE,zF,zG,zH]
         refine rk 10 ?_
         refine rl_last (by kernel_rfl) (by kernel_rfl) rfl (fun K hK=>?_)
         go_simp
         refine hK.out _ _ ?_
         clear hK K
         try simp only [zA,zB,zC,zD,zE,zF,zG,zH]
         clear hHeld
         go_wp2_with fail
         go_roundw
         case rel =>
          (repeat apply Exists.intro)
          refine ⟨⟨4,?_,?_,?_,?_⟩,rfl⟩
          ·omega
          ·go_num
          ·rw [HN'.out]
           exact HN.out
          ·exact (HKX.out.setCell (p:=⟨g,3,none⟩) (.inl (by simp)) _).drew
         case measure=>simp [intOf]
        | 4,_=>as_aux_lemma =>
         obtain ⟨N,hN⟩:∃ a,a=(s4+r4) % 4294967296:=⟨_,rfl⟩
         have u1:IntKind.u32.wrap ((s4:Int)+(r4:Int))=(N:Int):=by rw [wrap_u32'];omega
         have i1:∀ w,(Instr.index 154 (.agg #[.int .u32 r0,.int .u32 r1,.int .u32 r2,.int .u32 r3,.int .u32 r4,.int .u32 r5,.int .u32 r6,.int .u32 r7]) (.int .i64 ((4:Nat):Int))).run Tryz.prog w=.ok (.int .u32 r4) w:=fun _=>by kernel_rfl
         have HN:=Lib.hid (add_cell (x:=N) HH.out (j:=4) (by simp [addW]))
         rw [hN] at HN
         have HN':=Lib.hid hN
         have c1:wr.cell? ⟨g,4,none⟩=some (.int .u32 s4):=cell_sets_of' HH.out rfl
         have f1:=frozen_of_row wr g 4 _ _ HH.out
         clear hN
         go_upto_region 24 with (first | (refine wl_index rfl 154 (.tmp 214) (.tmp 215) rfl ?_;refine ⟨_,_,i1 _,?_⟩;try simp only [zA,zB,zC,zD,zE,zF,zG,zH]))
         refine rl_start (fun w'=>w'.cell? ⟨g,4,none⟩=some (.int .u32 s4)) 11 (by kernel_rfl) ?_ (fun hHeld=>?_)
         ·exact c1
         refine rk 0 ?_
         refine rk 1 ?_
         refine rk 2 ?_
         refine rk 3 ?_
         refine rk 4 ?_
         refine rk 5 ?_
         refine rk 6 ?_
         refine rk 7 ?_
         refine rl_act (i:=8) (by kernel_rfl) rfl (fun K hK=>?_)
         go_simp
         refine hK.out _ _ ?_ (fun hHeld=>?_)
         ·exact hHeld
         clear hK K
         try simp only [zA,zB,zC,zD,zE,zF,zG,zH]
         refine rl_act (i:=9) (by kernel_rfl) rfl (fun K hK=>?_)
         go_simp
         refine hK.out _ _ ?_ (fun hHeld=>?_)
         ·exact hHeld
         clear hK K
         try simp only [zA,zB,zC,zD,zE,zF,zG,zH]
         refine rk 10 ?_
         refine rl_last (by kernel_rfl) (by kernel_rfl) rfl (fun K hK=>?_)
         go_simp
         refine hK.out _ _ ?_
         clear hK K
         try simp only [zA,zB,zC,zD,zE,zF,zG,zH]
         clear hHeld
         go_wp2_with fail
         go_roundw
         case rel =>
          (repeat apply Exists.intro)
          refine ⟨⟨5,?_,?_,?_,?_⟩,rfl⟩
          ·omega
          ·go_num
          ·rw [HN'.out]
           exact HN.out
          ·exact (HKX.out.setCell (p:=⟨g,4,none⟩) (.inl (by simp)) _).drew
         case measure=>simp [intOf]
        | 5,_=>as_aux_lemma =>
         obtain ⟨N,hN⟩:∃ a,a=(s5+r5) % 4294967296:=⟨_,rfl⟩
         have u1:IntKind.u32.wrap ((s5:Int)+(r5:Int))=(N:Int):=by rw [wrap_u32'];omega
         have i1:∀ w,(Instr.index 154 (.agg #[.int .u32 r0,.int .u32 r1,.int .u32 r2,.int .u32 r3,.int .u32 r4,.int .u32 r5,.int .u32 r6,.int .u32 r7]) (.int .i64 ((5:Nat):Int))).run Tryz.prog w=.ok (.int .u32 r5) w:=fun _=>by kernel_rfl
         have HN:=Lib.hid (add_cell (x:=N) HH.out (j:=5) (by simp [addW]))
         rw [hN] at HN
         have HN':=Lib.hid hN
         have c1:wr.cell? ⟨g,5,none⟩=some (.int .u32 s5):=cell_sets_of' HH.out rfl
         have f1:=frozen_of_row wr g 5 _ _ HH.out
         clear hN
         go_upto_region 24 with (first | (refine wl_index rfl 154 (.tmp 214) (.tmp 215) rfl ?_;refine ⟨_,_,i1 _,?_⟩;try simp only [zA,zB,zC,zD,zE,zF,zG,zH]))
         refine rl_start (fun w'=>w'.cell? ⟨g,5,none⟩=some (.int .u32 s5)) 11 (by kernel_rfl) ?_ (fun hHeld=>?_)
         ·exact c1
         refine rk 0 ?_
         refine rk 1 ?_
         refine rk 2 ?_
         refine rk 3 ?_
         refine rk 4 ?_
         refine rk 5 ?_
         refine rk 6 ?_
         refine rk 7 ?_
         refine rl_act (i:=8) (by kernel_rfl) rfl (fun K hK=>?_)
         go_simp
         refine hK.out _ _ ?_ (fun hHeld=>?_)
         ·exact hHeld
         clear hK K
         try simp only [zA,zB,zC,zD,zE,zF,zG,zH]
         refine rl_act (i:=9) (by kernel_rfl) rfl (fun K hK=>?_)
         go_simp
         refine hK.out _ _ ?_ (fun hHeld=>?_)
         ·exact hHeld
         clear hK K
         try simp only [zA,zB,zC,zD,zE,zF,zG,zH]
         refine rk 10 ?_
         refine rl_last (by kernel_rfl) (by kernel_rfl) rfl (fun K hK=>?_)
         go_simp
         refine hK.out _ _ ?_
         clear hK K
         try simp only [zA,zB,zC,zD,zE,zF,zG,zH]
         clear hHeld
         go_wp2_with fail
         go_roundw
         case rel =>
          (repeat apply Exists.intro)
          refine ⟨⟨6,?_,?_,?_,?_⟩,rfl⟩
          ·omega
          ·go_num
          ·rw [HN'.out]
           exact HN.out
          ·exact (HKX.out.setCell (p:=⟨g,5,none⟩) (.inl (by simp)) _).drew
         case measure=>simp [intOf]
        | 6,_=>as_aux_lemma =>
         obtain ⟨N,hN⟩:∃ a,a=(s6+r6) % 4294967296:=⟨_,rfl⟩
         have u1:IntKind.u32.wrap ((s6:Int)+(r6:Int))=(N:Int):=by rw [wrap_u32'];omega
         have i1:∀ w,(Instr.index 154 (.agg #[.int .u32 r0,.int .u32 r1,.int .u32 r2,.int .u32 r3,.int .u32 r4,.int .u32 r5,.int .u32 r6,.int .u32 r7]) (.int .i64 ((6:Nat):Int))).run Tryz.prog w=.ok (.int .u32 r6) w:=fun _=>by kernel_rfl
         have HN:=Lib.hid (add_cell (x:=N) HH.out (j:=6) (by simp [addW]))
         rw [hN] at HN
         have HN':=Lib.hid hN
         have c1:wr.cell? ⟨g,6,none⟩=some (.int .u32 s6):=cell_sets_of' HH.out rfl
         have f1:=frozen_of_row wr g 6 _ _ HH.out
         clear hN
         go_upto_region 24 with (first | (refine wl_index rfl 154 (.tmp 214) (.tmp 215) rfl ?_;refine ⟨_,_,i1 _,?_⟩;try simp only [zA,zB,zC,zD,zE,zF,zG,zH]))
         refine rl_start (fun w'=>w'.cell? ⟨g,6,none⟩=some (.int .u32 s6)) 11 (by kernel_rfl) ?_ (fun hHeld=>?_)
         ·exact c1
         refine rk 0 ?_
         refine rk 1 ?_
         refine rk 2 ?_
         refine rk 3 ?_
         refine rk 4 ?_
         refine rk 5 ?_
         refine rk 6 ?_
         refine rk 7 ?_
         refine rl_act (i:=8) (by kernel_rfl) rfl (fun K hK=>?_)
         go_simp
         refine hK.out _ _ ?_ (fun hHeld=>?_)
         ·exact hHeld
         clear hK K
         try simp only [zA,zB,zC,zD,zE,zF,zG,zH]
         refine rl_act (i:=9) (by kernel_rfl) rfl (fun K hK=>?_)
         go_simp
         refine hK.out _ _ ?_ (fun hHeld=>?_)
         ·exact hHeld
         clear hK K
         try simp only [zA,zB,zC,zD,zE,zF,zG,zH]
         refine rk 10 ?_
         refine rl_last (by kernel_rfl) (by kernel_rfl) rfl (fun K hK=>?_)
         go_simp
         refine hK.out _ _ ?_
         clear hK K
         try simp only [zA,zB,zC,zD,zE,zF,zG,zH]
         clear hHeld
         go_wp2_with fail
         go_roundw
         case rel =>
          (repeat apply Exists.intro)
          refine ⟨⟨7,?_,?_,?_,?_⟩,rfl⟩
          ·omega
          ·go_num
          ·rw [HN'.out]
           exact HN.out
          ·exact (HKX.out.setCell (p:=⟨g,6,none⟩) (.inl (by simp)) _).drew
         case measure=>simp [intOf]
        | 7,_=>as_aux_lemma =>
         obtain ⟨N,hN⟩:∃ a,a=(s7+r7) % 4294967296:=⟨_,rfl⟩
         have u1:IntKind.u32.wrap ((s7:Int)+(r7:Int))=(N:Int):=by rw [wrap_u32'];omega
         have i1:∀ w,(Instr.index 154 (.agg #[.int .u32 r0,.int .u32 r1,.int .u32 r2,.int .u32 r3,.int .u32 r4,.int .u32 r5,.int .u32 r6,.int .u32 r7]) (.int .i64 ((7:Nat):Int))).run Tryz.prog w=.ok (.int .u32 r7) w:=fun _=>by kernel_rfl
         have HN:=Lib.hid (add_cell (x:=N) HH.out (j:=7) (by simp [addW]))
         rw [hN] at HN
         have HN':=Lib.hid hN
         have c1:wr.cell? ⟨g,7,none⟩=some (.int .u32 s7):=cell_sets_of' HH.out rfl
         have f1:=frozen_of_row wr g 7 _ _ HH.out
         clear hN
         go_upto_region 24 with (first | (refine wl_index rfl 154 (.tmp 214) (.tmp 215) rfl ?_;refine ⟨_,_,i1 _,?_⟩;try simp only [zA,zB,zC,zD,zE,zF,zG,zH]))
         refine rl_start (fun w'=>w'.cell? ⟨g,7,none⟩=some (.int .u32 s7)) 11 (by kernel_rfl) ?_ (fun hHeld=>?_)
         ·exact c1
         refine rk 0 ?_
         refine rk 1 ?_
         refine rk 2 ?_
         refine rk 3 ?_
         refine rk 4 ?_
         refine rk 5 ?_
         refine rk 6 ?_
         refine rk 7 ?_
         refine rl_act (i:=8) (by kernel_rfl) rfl (fun K hK=>?_)
         go_simp
         refine hK.out _ _ ?_ (fun hHeld=>?_)
         ·exact hHeld
         clear hK K
         try simp only [zA,zB,zC,zD,zE,zF,zG,zH]
         refine rl_act (i:=9) (by kernel_rfl) rfl (fun K hK=>?_)
         go_simp
         refine hK.out _ _ ?_ (fun hHeld=>?_)
         ·exact hHeld
         clear hK K
         try simp only [zA,zB,zC,zD,zE,zF,zG,zH]
         refine rk 10 ?_
         refine rl_last (by kernel_rfl) (by kernel_rfl) rfl (fun K hK=>?_)
         go_simp
         refine hK.out _ _ ?_
         clear hK K
         try simp only [zA,zB,zC,zD,zE,zF,zG,zH]
         clear hHeld
         go_wp2_with fail
         go_roundw
         case rel =>
          (repeat apply Exists.intro)
          refine ⟨⟨8,?_,?_,?_,?_⟩,rfl⟩
          ·omega
          ·go_num
          ·rw [HN'.out]
           exact HN.out
          ·exact (HKX.out.setCell (p:=⟨g,7,none⟩) (.inl (by simp)) _).drew
         case measure=>simp [intOf]
        | 8,_ =>
         go_wp2_with fail
         refine Go.Great.bodyPost_end0 rfl rfl ⟨rfl,?_,?_⟩
         ·rw [HFIN.out]
          exact HH.out
         ·have h1:Keeps [g] w wz:=((HK1.out.trans (G:=[gw]) HKW.out (fun j hj=>.inr (by simp at hj;subst hj;exact HGL.out.2)))).mono (by simp)
          exact h1.trans (G:=[g]) HKX.out (fun j hj=>.inl hj)
open Go.RowKit
def supV (s:Sup):Value:=.agg #[.int .i64 s.width,.int .i64 s.gen,.int .i64 s.mark,.int .i64 s.head,.int .i64 s.pages]
set_option maxRecDepth 100000 in
set_option maxHeartbeats 2000000 in
theorem valid_any {w:World} (s:Sup) :
  Calls Tryz.prog 92 #[supV s] w fun e w'=>e=.returned (.bool s.valid)∧Keeps [] w w':=by
 obtain ⟨W,G,M,H,P⟩:=s
 obtain ⟨b,hb⟩:∃ b,b=(⟨W,G,M,H,P⟩:Sup).valid:=⟨_,rfl⟩
 rw [← hb]
 unfold supV
 unfold Sup.valid at hb
 dsimp only at hb ⊢
 have HB:=Lib.hid hb
 clear hb
 obtain ⟨w1,hw1⟩:∃ w1,w1=w.alloc (.cells #[.int .i64 W,.int .i64 G,.int .i64 M,.int .i64 H,.int .i64 P] 42 (0,0)):=⟨_,rfl⟩
 have hk1:Keeps [] w w1:=by rw [hw1];exact (Keeps.refl _ _).alloc _
 have hbk:w1.heap[w.heap.size]?=some (.cells #[.int .i64 W,.int .i64 G,.int .i64 M,.int .i64 H,.int .i64 P] 42 (0,0)):=by rw [hw1];exact heap_new_at rfl
 have HK:=Lib.hid hk1
 have HW:=Lib.hid hw1
 obtain ⟨g,hg⟩:∃ g,g=w.heap.size:=⟨_,rfl⟩
 rw [← hg] at hbk
 have HG:=Lib.hid hg
 have e0:w1.cell? ⟨g,0,none⟩=some (.int .i64 W):=by rw [cell_of_row w1 g 0 _ _ _ hbk];rfl
 have e1:w1.cell? ⟨g,1,none⟩=some (.int .i64 G):=by rw [cell_of_row w1 g 1 _ _ _ hbk];rfl
 have e2:w1.cell? ⟨g,2,none⟩=some (.int .i64 M):=by rw [cell_of_row w1 g 2 _ _ _ hbk];rfl
 have e3:w1.cell? ⟨g,3,none⟩=some (.int .i64 H):=by rw [cell_of_row w1 g 3 _ _ _ hbk];rfl
 have e4:w1.cell? ⟨g,4,none⟩=some (.int .i64 P):=by rw [cell_of_row w1 g 4 _ _ _ hbk];rfl
 clear hk1 hw1 hg hbk
 go_enter Tryz.func92,Tryz.ntmps92
 go_upto_region 1 with fail
 rw [← HW.out,← HG.out]
 by_cases c1:1≤W
 rotate_left 1
 ·
  have hv:=Lib.hid (show b=false by rw [HB.out];simp [c1])
  go_wp2_with fail
  go_ret
  exact ⟨by rw [hv.out];rfl,HK.out⟩
 by_cases c2:W≤32
 rotate_left 1
 ·
  have hv:=Lib.hid (show b=false by rw [HB.out];simp [c1,c2])
  go_wp2_with fail
  go_ret
  exact ⟨by rw [hv.out];rfl,HK.out⟩
 by_cases c3:0≤G
 rotate_left 1
 ·
  have hv:=Lib.hid (show b=false by rw [HB.out];simp [c1,c2,c3])
  go_wp2_with fail
  go_ret
  exact ⟨by rw [hv.out];rfl,HK.out⟩
 by_cases c4:G≤1099511627776
 rotate_left 1
 ·
  have hv:=Lib.hid (show b=false by rw [HB.out];simp [c1,c2,c3,c4])
  go_wp2_with fail
  go_ret
  exact ⟨by rw [hv.out];rfl,HK.out⟩
 by_cases c5:3≤P
 rotate_left 1
 ·
  have hv:=Lib.hid (show b=false by rw [HB.out];simp [c1,c2,c3,c4,c5])
  go_wp2_with fail
  go_ret
  exact ⟨by rw [hv.out];rfl,HK.out⟩
 by_cases c6:P≤4096
 rotate_left 1
 ·
  have hv:=Lib.hid (show b=false by rw [HB.out];simp [c1,c2,c3,c4,c5,c6])
  go_wp2_with fail
  go_ret
  exact ⟨by rw [hv.out];rfl,HK.out⟩
 by_cases c7:2≤M
 rotate_left 1
 ·
  have hv:=Lib.hid (show b=false by rw [HB.out];simp [c1,c2,c3,c4,c5,c6,c7])
  go_wp2_with fail
  go_ret
  exact ⟨by rw [hv.out];rfl,HK.out⟩
 by_cases c8:M≤P
 rotate_left 1
 ·
  have hv:=Lib.hid (show b=false by rw [HB.out];simp [c1,c2,c3,c4,c5,c6,c7,c8])
  go_wp2_with fail
  go_ret
  exact ⟨by rw [hv.out];rfl,HK.out⟩
 by_cases c9:H=0
 ·
  subst c9
  have hv:=Lib.hid (show b=true by rw [HB.out];simp [c1,c2,c3,c4,c5,c6,c7,c8])
  go_wp2_with fail
  go_ret
  exact ⟨by rw [hv.out];rfl,HK.out⟩
 by_cases c10:2≤H
 rotate_left 1
 ·
  have hv:=Lib.hid (show b=false by rw [HB.out];simp [c1,c2,c3,c4,c5,c6,c7,c8,c9,c10])
  go_wp2_with fail
  go_ret
  exact ⟨by rw [hv.out,← beq_eq_false_iff_ne.mpr c9];rfl,HK.out⟩
 by_cases c11:H < M
 rotate_left 1
 ·
  have hv:=Lib.hid (show b=false by rw [HB.out];simp [c1,c2,c3,c4,c5,c6,c7,c8,c9,c10,c11])
  go_wp2_with fail
  go_ret
  exact ⟨by rw [hv.out,← beq_eq_false_iff_ne.mpr c9];rfl,HK.out⟩
 have hv:=Lib.hid (show b=true by rw [HB.out];simp [c1,c2,c3,c4,c5,c6,c7,c8,c9,c10,c11])
 go_wp2_with fail
 go_ret
 exact ⟨by rw [hv.out];rfl,HK.out⟩
open Go.RowKit
theorem wl_arrayAt {ops:Array Oper} {rest:List Oper} {o:Oper} {a:Act} {w:World} {Q:Exit→Act→World→Prop} (hg:o.guard=none) (t e:TypeId) (n:Nat) (x:Operand) (ho:o.op=.sliceToArrayPointer t x) (ht:Tryz.prog.underlying t=some (.array n e))
  {p:Option Addr} {m c:Nat} (hx:a.eval x=.slice p m c) (hm:n≤m) (h:wpList Tryz.prog ops Q rest (a.put o.dst (.pointer p)) w):wpList Tryz.prog ops Q (o :: rest) a w:=by
 refine wpList_plain hg fun _ hK=>?_
 unfold Oper.wp execOp
 simp [ho,hx,Instr.arrayAt,run_underlying ht,Nat.not_lt.2 hm,Result.andThen]
 exact hK _ _ h
theorem results_row {fn:Func} {tmps:Array Value} {w:World} {s b:Nat} {t:TypeId} {cs:List Value} {d:TypeDesc} (h:fn.results=#[.cell s t]) (hv:tmps.getD s undef=.pointer (some ⟨b,0,none⟩)) (hr:w.rangeAt b 0 cs) (hu:Tryz.prog.underlying t=some d) (hd:d.isRow=true) (hi:(Tryz.prog.info? t).map (·.size)=some cs.length) :
  (results fn tmps).run Tryz.prog w=.ok (.agg cs.toArray) w:=by
 have h1:=run_loadVar_mid w b 0 t cs _ hr hu hd hi
 simp only [Array.getD_eq_getD_getElem?] at hv
 simp [results,h,hv,h1,asAddr]
theorem results_row2 {fn:Func} {tmps:Array Value} {w:World} {s s2 b:Nat} {t:TypeId} {cs:List Value} {u:Value} {d:TypeDesc} (h:fn.results=#[.cell s t,.tmp s2]) (hv:tmps.getD s undef=.pointer (some ⟨b,0,none⟩)) (hu2:tmps.getD s2 undef=u) (hr:w.rangeAt b 0 cs) (hu:Tryz.prog.underlying t=some d) (hd:d.isRow=true) (hi:(Tryz.prog.info? t).map (·.size)=some cs.length) :
  (results fn tmps).run Tryz.prog w=.ok (.tuple #[.agg cs.toArray,u]) w:=by
 have h1:=run_loadVar_mid w b 0 t cs _ hr hu hd hi
 simp only [Array.getD_eq_getD_getElem?] at hv hu2
 simp [results,h,hv,hu2,h1,asAddr]
def supC (s:Sup):List Value:=[.int .i64 s.width,.int .i64 s.gen,.int .i64 s.mark,.int .i64 s.head,.int .i64 s.pages]
theorem supV_eq (s:Sup):supV s=.agg (supC s).toArray:=rfl
theorem size_super:(Tryz.prog.info? 42).map (·.size)=some 5:=by kernel_rfl
theorem supC_one (s:Sup):∀ v∈supC s,v.oneCell'=true:=by
 intro v hv
 simp only [supC,List.mem_cons,List.not_mem_nil,or_false] at hv
 rcases hv with rfl | rfl | rfl | rfl | rfl <;> rfl
def SupAt (w:World) (g:Nat) (s:Sup):Prop:=w.heap[g]?=some (.cells (supC s).toArray 42 (0,0))
theorem SupAt.cells {w:World} {g:Nat} {s:Sup} (h:SupAt w g s):w.cell? ⟨g,0,none⟩=some (.int .i64 s.width)∧w.cell? ⟨g,1,none⟩=some (.int .i64 s.gen)∧w.cell? ⟨g,2,none⟩=some (.int .i64 s.mark)∧w.cell? ⟨g,3,none⟩=some (.int .i64 s.head)∧w.cell? ⟨g,4,none⟩=some (.int .i64 s.pages):=by
 refine ⟨?_,?_,?_,?_,?_⟩ <;> (rw [cell_of_row w g _ _ _ _ h];rfl)
theorem SupAt.free {w:World} {g:Nat} {s:Sup} (h:SupAt w g s) (j:Nat):w.frozen? ⟨g,j,none⟩=false:=frozen_of_row w g j _ _ h
theorem SupAt.keeps {w w':World} {g:Nat} {s:Sup} {F:List Nat} (h:SupAt w g s) (hk:Keeps F w w') (hg:g ∉ F):SupAt w' g s:=(hk.block g (lt_of_heap h) hg).trans h
theorem SupAt.store {w:World} {g:Nat} {s:Sup} (h:SupAt w g s) (s':Sup) :
  (Instr.storeAt 42 (.pointer (some ⟨g,0,none⟩)) (supV s')).run Tryz.prog w=.ok () (w.setCells g 0 (supC s'))∧SupAt (w.setCells g 0 (supC s')) g s':=by
 refine ⟨run_storeAt_mid (P:=Tryz.prog) w g 0 42 (supC s').toArray (there_all h 0 _ (by simp [supC])) (by rw [size_super];rfl) (all_oneCell_toArray (supC_one s')),?_⟩
 have:=heap_setCells_same g 42 (supC s') 0 w (supC s) h (by simp [supC])
 unfold SupAt
 rw [this]
 rfl
theorem SupAt.load {w:World} {g:Nat} {s:Sup} (h:SupAt w g s):(Instr.loadAt 42 (.pointer (some ⟨g,0,none⟩))).run Tryz.prog w=.ok (supV s) w :=
 run_loadAt_mid w g 0 42 (supC s) _ (rangeAt_all h) Tryz.underlying42 rfl (by rw [size_super];rfl)
theorem results_sup {fn:Func} {tmps:Array Value} {w:World} {i g:Nat} {s:Sup} (h:fn.results=#[.cell i 42]) (hv:tmps.getD i undef=.pointer (some ⟨g,0,none⟩)) (hs:SupAt w g s):(results fn tmps).run Tryz.prog w=.ok (supV s) w :=
 results_row h hv (rangeAt_all hs) Tryz.underlying42 rfl (by rw [size_super];rfl)
theorem results_sup2 {fn:Func} {tmps:Array Value} {w:World} {i j g:Nat} {s:Sup} {u:Value} (h:fn.results=#[.cell i 42,.tmp j]) (hv:tmps.getD i undef=.pointer (some ⟨g,0,none⟩)) (hu:tmps.getD j undef=u) (hs:SupAt w g s):(results fn tmps).run Tryz.prog w=.ok (.tuple #[supV s,u]) w :=
 results_row2 h hv hu (rangeAt_all hs) Tryz.underlying42 rfl (by rw [size_super];rfl)
theorem over_mid {a b c xs:List UInt8} {o:Nat} (ha:a.length=o) (hb:b.length=xs.length):over (a++(b++c)) o xs=a++(xs++c):=by
 unfold over
 rw [List.take_left' ha,← ha,List.append_assoc]
 have:(a++(b++c)).drop (a.length+xs.length)=c:=by
  rw [← List.append_assoc]
  exact List.drop_left' (by rw [List.length_append,hb])
 rw [this]
theorem zeros_split (n m:Nat):List.replicate (n+m) (0:UInt8)=List.replicate n 0++List.replicate m 0:=by simp
theorem sup_laid {W G M H P:Nat} {I4 I5 I6 I7 I8 I9 Z:List UInt8} (h4:I4=over (List.replicate 60 (0:UInt8)) 0 [76,68,71,49]) (h5:I5=I4.set 4 (UInt8.ofNat W)) (h6:I6=over I5 8 (leN 8 G)) (h7:I7=over I6 16 (leN 4 M))
  (h8:I8=over I7 20 (leN 4 H)) (h9:I9=over I8 24 (leN 4 P)) (hZ:Z=List.replicate 256 (0:UInt8)):over Z 0 (sealL I9)=supL ⟨W,G,M,H,P⟩:=by
 have e4:I4=[76,68,71,49,0,0,0,0]++(List.replicate 8 0++List.replicate 44 0):=by rw [h4];rfl
 have e5:I5=[76,68,71,49,UInt8.ofNat W,0,0,0]++(List.replicate 8 0++List.replicate 44 0):=by rw [h5,e4];rfl
 have e6:I6=([76,68,71,49,UInt8.ofNat W,0,0,0]++leN 8 G)++(List.replicate 4 0++List.replicate 40 0):=by
  rw [h6,e5,over_mid (o:=8) rfl (by rw [leN_length];rfl),zeros_split 4 40,List.append_assoc]
 have e7:I7=([76,68,71,49,UInt8.ofNat W,0,0,0]++leN 8 G++leN 4 M)++(List.replicate 4 0++List.replicate 36 0):=by
  rw [h7,e6,over_mid (o:=16) (by rw [List.length_append,leN_length];rfl) (by rw [leN_length];rfl),zeros_split 4 36]
  simp only [List.append_assoc]
 have e8:I8=([76,68,71,49,UInt8.ofNat W,0,0,0]++leN 8 G++leN 4 M++leN 4 H)++(List.replicate 4 0++List.replicate 32 0):=by
  rw [h8,e7,over_mid (o:=20) (by rw [List.length_append,List.length_append,leN_length,leN_length];rfl) (by rw [leN_length];rfl),zeros_split 4 32]
  simp only [List.append_assoc]
 have e9:I9=supHead ⟨W,G,M,H,P⟩:=by
  rw [h9,e8,over_mid (o:=24) (by rw [List.length_append,List.length_append,List.length_append,leN_length,leN_length,leN_length];rfl) (by rw [leN_length];rfl)]
  simp only [supHead,Int.toNat_natCast,List.append_assoc,List.cons_append,List.nil_append]
 rw [e9,supL,hZ]
 have hl:(sealL (supHead ⟨W,G,M,H,P⟩)).length=64:=by rw [sealL_length,supHead_length]
 have:=over_mid (a:=[]) (b:=List.replicate 64 0) (c:=List.replicate 192 0) (xs:=sealL (supHead ⟨W,G,M,H,P⟩)) (o:=0) rfl (by rw [hl];rfl)
 rw [List.nil_append,List.nil_append,← zeros_split] at this
 exact this
end Go.Proofs.YtakaocenbempmaaGreatDoor
