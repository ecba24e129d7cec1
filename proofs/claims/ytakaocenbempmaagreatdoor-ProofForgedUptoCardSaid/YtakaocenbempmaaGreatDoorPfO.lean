/-
  Lemmas of a claim, bundle O: XShG XShE XShF XNdA XNdB XNdC.
-/
import Derived.Lib.MinMax
import Derived.Test.YtakaocenbempmaaGreatDoorPfN
import Derived.Test.YtakaocenbempmaaGreatDoorPfL
import Derived.Test.YtakaocenbempmaaGreatDoorPfI
import Derived.Test.YtakaocenbempmaaGreatDoorPfG
set_option linter.unusedVariables false
set_option linter.unusedSimpArgs false
namespace Go.Proofs.YtakaocenbempmaaGreatDoor
open Go.RowKit
theorem dg_size:(Tryz.prog.info? 88).map (·.size)=some 32:=by kernel_rfl
theorem dg_run_store {w:World} {q:Nat} {x:List UInt8} (h:w.heap[q]?=some (.cells (Array.replicate 32 (Value.int .u8 0)) 88 (0,0))) (hl:x.length=32) :
  (Instr.storeAt 88 (.pointer (some ⟨q,0,none⟩)) (.agg (x.map B).toArray)).run Tryz.prog w=.ok () (w.setCells q 0 (x.map B)):=by
 have h2:w.heap[q]?=some (.cells (List.replicate 32 (Value.int .u8 0)).toArray 88 (0,0)):=by rw [h];rfl
 have:=run_storeAt_mid (P:=Tryz.prog) w q 0 88 (x.map B).toArray (there_all h2 0 _ (by simp [hl])) (by rw [dg_size];simp [hl]) (all_oneCell_toArray (B_one x))
 simpa using this
theorem dg_store {w:World} {q:Nat} {x:List UInt8} (h:w.heap[q]?=some (.cells (Array.replicate 32 (Value.int .u8 0)) 88 (0,0))) (hl:x.length=32):Blk (w.setCells q 0 (x.map B)) q 88 x:=by
 have h2:w.heap[q]?=some (.cells (List.replicate 32 (Value.int .u8 0)).toArray 88 (0,0)):=by rw [h];rfl
 exact store_all h2 (by simp [hl])
def cutL (d:List UInt8) (k:Nat):List UInt8:=d.take k++List.replicate (32 - k) 0
theorem cutL_length {d:List UInt8} (h:d.length=32) {k:Nat} (hk:k≤32):(cutL d k).length=32:=by simp [cutL,h];omega
set_option maxRecDepth 100000 in
theorem run_dig_to (w:World) (g k:Nat) (hk:k≤32):(Instr.sliceAt 88 (.pointer (some ⟨g,0,none⟩)) none (some (.int .i64 k)) none).run Tryz.prog w=.ok (.slice (some ⟨g,0,none⟩) k 32) w:=by
 have h:=run_sliceAt_array_h (P:=Tryz.prog) w 88 ⟨g,0,none⟩ Tryz.underlying88 .i64 k (by omega) (by show (k:Int)≤(32:Nat);omega)
 rw [h]
 show Result.ok (slicedAt ⟨g,0,none⟩ 0 (Int.toNat k) 32 1) w=_
 simp [slicedAt,Addr.add_mid]
set_option maxRecDepth 100000 in
set_option maxHeartbeats 1600000 in
theorem cut_any {w:World} {d:List UInt8} (hd:d.length=32) (n:Int) (n0:-9223372036854775808≤n) (n1:n≤9223372036854775807) (k:Nat) (hk:(k:Int)=min (max n 0) 32) :
  Calls Tryz.prog 55 #[.agg (d.map B).toArray,.int .i64 n] w fun e w'=>e=.returned (.agg ((cutL d k).map B).toArray)∧Keeps [] w w':=by
 have hk32:k≤32:=by omega
 obtain ⟨q,hq⟩:∃ q,q=w.heap.size:=⟨_,rfl⟩
 obtain ⟨w1,hw1⟩:∃ x,x=((w.alloc (.cells (d.map B).toArray 88 (0,0))).alloc (.cells #[.int .u8 0,.int .u8 0,.int .u8 0,.int .u8 0,.int .u8 0,.int .u8 0,.int .u8 0,.int .u8 0,.int .u8 0,.int .u8 0,.int .u8 0,.int .u8 0,.int .u8 0,.int .u8 0,.int .u8 0,.int .u8 0,.int .u8 0,.int .u8 0,.int .u8 0,.int .u8 0,.int .u8 0,.int .u8 0,.int .u8 0,.int .u8 0,.int .u8 0,.int .u8 0,.int .u8 0,.int .u8 0,.int .u8 0,.int .u8 0,.int .u8 0,.int .u8 0] 88 (0,0))).alloc (.cells #[.int .u8 0,.int .u8 0,.int .u8 0,.int .u8 0,.int .u8 0,.int .u8 0,.int .u8 0,.int .u8 0,.int .u8 0,.int .u8 0,.int .u8 0,.int .u8 0,.int .u8 0,.int .u8 0,.int .u8 0,.int .u8 0,.int .u8 0,.int .u8 0,.int .u8 0,.int .u8 0,.int .u8 0,.int .u8 0,.int .u8 0,.int .u8 0,.int .u8 0,.int .u8 0,.int .u8 0,.int .u8 0,.int .u8 0,.int .u8 0,.int .u8 0,.int .u8 0] 88 (0,0)):=⟨_,rfl⟩
 have hk1:Keeps [] w w1:=by rw [hw1];exact (((Keeps.refl _ _).alloc _).alloc _).alloc _
 have hz:(#[.int .u8 0,.int .u8 0,.int .u8 0,.int .u8 0,.int .u8 0,.int .u8 0,.int .u8 0,.int .u8 0,.int .u8 0,.int .u8 0,.int .u8 0,.int .u8 0,.int .u8 0,.int .u8 0,.int .u8 0,.int .u8 0,.int .u8 0,.int .u8 0,.int .u8 0,.int .u8 0,.int .u8 0,.int .u8 0,.int .u8 0,.int .u8 0,.int .u8 0,.int .u8 0,.int .u8 0,.int .u8 0,.int .u8 0,.int .u8 0,.int .u8 0,.int .u8 0]:Array Value)=((List.replicate 32 (0:UInt8)).map B).toArray:=rfl
 have b0:Blk w1 q 88 d:=by
  rw [hw1]
  exact (heap_old_at (by simp;omega)).trans ((heap_old_at (by simp;omega)).trans (heap_new_at hq))
 have b1:w1.heap[q+1]?=some (.cells #[.int .u8 0,.int .u8 0,.int .u8 0,.int .u8 0,.int .u8 0,.int .u8 0,.int .u8 0,.int .u8 0,.int .u8 0,.int .u8 0,.int .u8 0,.int .u8 0,.int .u8 0,.int .u8 0,.int .u8 0,.int .u8 0,.int .u8 0,.int .u8 0,.int .u8 0,.int .u8 0,.int .u8 0,.int .u8 0,.int .u8 0,.int .u8 0,.int .u8 0,.int .u8 0,.int .u8 0,.int .u8 0,.int .u8 0,.int .u8 0,.int .u8 0,.int .u8 0] 88 (0,0)):=by
  rw [hw1]
  exact (heap_old_at (by simp;omega)).trans (heap_new_at (by simp;omega))
 have b2:Blk w1 (q+1+1) 88 (List.replicate 32 (0:UInt8)):=by
  rw [hw1]
  exact (heap_new_at (by simp;omega)).trans rfl
 have hcp:∃ w2,(∀ ty,(Builtin.copy_ #[36,36] ty #[.slice (some ⟨q+1+1,0,none⟩) k 32,.slice (some ⟨q,0,none⟩) k 32]).run Tryz.prog w1.drew=.ok (.int .i64 k) w2)∧Blk w2 (q+1+1) 88 (cutL d k)∧Keeps [q+1+1] w1.drew w2:=by
  have hB:Blk w1.drew (q+1+1) 88 (List.replicate 32 (0:UInt8)):=b2
  have hS:BytesAt w1.drew (.slice (some ⟨q,0,none⟩) k 32) (d.take k):=by
   have:=Blk.part (w:=w1.drew) (g:=q) (t:=88) (l:=d) b0 0 k 32 (by omega) hk32 (by simp [maxLen])
   simpa using this
  rcases Nat.eq_zero_or_pos k with h0 | h0
  ·subst h0
   refine ⟨w1.drew,fun ty=>run_copy_none (P:=Tryz.prog) _ 36 36 ty 5 _ _ 0 32 0 32 Tryz.underlying36 (by kernel_rfl) (by simp),?_,Keeps.refl _ _⟩
   simpa [cutL] using hB
  ·have hlt:(d.take k).length=k:=by rw [List.length_take];omega
   refine ⟨_,fun ty=>run_copy_blk (c1:=32) (m:=k) hB hS h0 hlt (Nat.le_refl _) (by simp;omega) ty,?_,(Keeps.refl _ _).setRow (.inl (by simp)) _⟩
   have e:over (List.replicate 32 (0:UInt8)) 0 (d.take k)=cutL d k:=by simp only [over,cutL,hlt,List.take_zero,List.nil_append,Nat.zero_add,List.drop_replicate]
   rw [e]
   exact hB.setRow _
 obtain ⟨w2,hrun,hb2,hk2⟩:=hcp
 have hk12:Keeps [q+1+1] w1 w2:=((Keeps.refl [q+1+1] w1).drew).trans (G:=[q+1+1]) hk2 (fun j hj=>.inl hj)
 have hb1:w2.heap[q+1]?=some (.cells (Array.replicate 32 (Value.int .u8 0)) 88 (0,0)):=(hk12.block _ (lt_of_heap b1) (by simp)).trans (b1.trans rfl)
 have hcl:=cutL_length hd hk32
 have HRUN:=Lib.hid hrun
 have HB2:=Lib.hid hb2
 have HB1:=Lib.hid hb1
 have HW1:=Lib.hid hw1
 have HQ:=Lib.hid hq
 have HK:=Lib.hid hk
 have HK1:=Lib.hid hk1
 have HK12:=Lib.hid hk12
 have HCL:=Lib.hid hcl
 have HSD:=Lib.hid (show (Tryz.prog.info? 88).map (·.size)=some ((cutL d k).map B).length by rw [List.length_map,hcl];exact dg_size)
 have HSL:=Lib.hid (fun wx g=>run_dig_to wx g k hk32)
 clear hw1 hq hk1 b0 b1 b2 hz hrun hb2 hk2 hk12 hb1 hk hcl
 go_enter Tryz.func55,Tryz.ntmps55
 go_upto_region 3 with fail
 rw [← HQ.out,← HK.out,← HW1.out]
 refine wp_region_held_drew (S:=(fun _=>True)) (by kernel_rfl) ?_ (fun hHeld=>?_)
 ·trivial
 refine tk 0 ?_
 refine' wpAnyH_take (i:=1) (v:=_) rfl (by kernel_rfl) (by kernel_rfl) (by kernel_rfl) (fun _ _ _ h=>h) (Or.inl ⟨by rfl,?_⟩) (by assumption) ?_
 rotate_left 1
 ·intro w0 hSw
  go_simp
  rw [HSL.out w0]
  rfl
 try simp only [zA,zB,zC,zD,zE,zF,zG,zH]
 refine tk 2 ?_
 refine' wpAnyH_take (i:=3) (v:=_) rfl (by kernel_rfl) (by kernel_rfl) (by kernel_rfl) (fun _ _ _ h=>h) (Or.inl ⟨by rfl,?_⟩) (by assumption) ?_
 rotate_left 1
 ·intro w0 hSw
  go_simp
  rw [HSL.out w0]
  rfl
 try simp only [zA,zB,zC,zD,zE,zF,zG,zH]
 refine ac 4 fun K hK=>?_
 refine step_copy rfl (.tmp 10) (.tmp 12) rfl _ _ _ (by rfl) (by rfl) HRUN.out ?_
 refine hK.out _ _ ?_ (fun hHeld=>?_)
 ·trivial
 clear hK K
 try simp only [zA,zB,zC,zD,zE,zF,zG,zH]
 refine wpAnyH_done (by kernel_rfl) ?_ _
 clear hHeld
 go_wp2_with (first | (refine wpList_load_mid rfl 88 (.tmp 5) rfl (q+1+1) 0 (by rfl) ((cutL d k).map B) _ (rangeAt_all HB2.out) Tryz.underlying88 rfl HSD.out ?_;try simp only [zA,zB,zC,zD,zE,zF,zG,zH]) | (refine wl_store rfl 88 (.tmp 4) (.tmp 14) rfl ?_;refine ⟨_,dg_run_store HB1.out HCL.out,?_⟩;try simp only [zA,zB,zC,zD,zE,zF,zG,zH]))
 refine bodyPost_ret (results_row (cs:=(cutL d k).map B) rfl rfl (rangeAt_all (dg_store HB1.out HCL.out)) Tryz.underlying88 rfl HSD.out) rfl ⟨rfl,?_⟩
 have hb:=HB1.out
 have hle:w.heap.size≤q:=by rw [HQ.out];exact Nat.le_refl _
 exact (HK1.out.trans (G:=[q+1+1]) HK12.out (fun j hj=>.inr (by simp at hj;subst hj;omega))).setCells (.inr (by omega)) _ _
open Go.RowKit
def S8.zero:S8:=⟨0,0,0,0,0,0,0,0⟩
set_option maxRecDepth 100000 in
theorem info_hasher:(Tryz.prog.info? 158).map (fun i=>(i.zero,i.size,i.bytes))=some (some (.agg (hCells S8.zero (List.replicate 64 0) 0 0).toArray),74,112):=by kernel_rfl
set_option maxRecDepth 100000 in
theorem info_128:(Tryz.prog.info? 180).map (fun i=>(i.zero,i.size,i.bytes))=some (some (.agg ((List.replicate 128 (0:UInt8)).map B).toArray),128,128):=by kernel_rfl
theorem size_h74:(Tryz.prog.info? 158).map (·.size)=some 74:=by kernel_rfl
theorem hCells_one (s:S8) (r:List UInt8) (k t:Nat):(hCells s r k t).toArray.all (·.oneCell')=true:=by
 simp [hCells,W32,B,Value.oneCell']
theorem beN8 (v:Nat):beN 8 v=[UInt8.ofNat (v / 72057594037927936 % 256),UInt8.ofNat (v / 281474976710656 % 256),UInt8.ofNat (v / 1099511627776 % 256),UInt8.ofNat (v / 4294967296 % 256),UInt8.ofNat (v / 16777216 % 256),UInt8.ofNat (v / 65536 % 256),UInt8.ofNat (v / 256 % 256),UInt8.ofNat (v % 256)]:=by
 simp [beN,Nat.div_div_eq_div_mul]
theorem beN4 (v:Nat):beN 4 v=[UInt8.ofNat (v / 16777216 % 256),UInt8.ofNat (v / 65536 % 256),UInt8.ofNat (v / 256 % 256),UInt8.ofNat (v % 256)]:=by
 simp [beN,Nat.div_div_eq_div_mul]
theorem over_take_succ {V l:List UInt8} {o j:Nat} (hj:j < l.length) (hl:o+l.length≤V.length):(over V o (l.take j)).set (o+j) l[j]=over V o (l.take (j+1)):=by
 have h1:(V.take o++l.take j).length=o+j:=by simp;omega
 have h2:(l.take j).length=j:=by rw [List.length_take];omega
 have h3:(l.take (j+1)).length=j+1:=by rw [List.length_take];omega
 unfold over
 rw [List.set_append_right _ _ (by rw [h1];exact Nat.le_refl _),h1,Nat.sub_self,h2,h3,List.drop_eq_getElem_cons (i:=o+j) (by omega),List.set_cons_zero,show l.take (j+1)=l.take j++[l[j]] from List.take_succ_eq_append_getElem hj,List.append_assoc,List.append_assoc,List.append_assoc]
 simp only [List.singleton_append,Nat.add_assoc]
set_option maxRecDepth 100000 in
theorem pad_tail {m:List UInt8} {V:List UInt8} {N L:Nat} (hN:N=(119 - m.length % 64) % 64) (hL:L=m.length * 8 % 18446744073709551616) (hV:V=(List.replicate 128 (0:UInt8)).set 0 128):m++(over V (N+1) (beN 8 L)).take (N+9)=shaPad m:=by
 have hN64:N < 64:=by omega
 have e1:V.take (N+1)=128 :: List.replicate N 0:=by
  rw [hV,show (List.replicate 128 (0:UInt8)).set 0 128=128 :: List.replicate 127 0 from rfl,List.take_succ_cons,List.take_replicate,Nat.min_eq_left (by omega)]
 have e2:(V.take (N+1)++beN 8 L).length=N+9:=by rw [e1];simp [beN_length]
 unfold over shaPad
 rw [List.take_left' e2,e1,hL,show (55+64 - m.length % 64) % 64=N by omega]
 rfl
set_option maxRecDepth 100000 in
theorem run_128_to (w:World) (g k:Nat) (hk:k≤128):(Instr.sliceAt 180 (.pointer (some ⟨g,0,none⟩)) none (some (.int .i64 k)) none).run Tryz.prog w=.ok (.slice (some ⟨g,0,none⟩) k 128) w:=by
 have h:=run_sliceAt_array_h (P:=Tryz.prog) w 180 ⟨g,0,none⟩ Tryz.underlying180 .i64 k (by omega) (by show (k:Int)≤(128:Nat);omega)
 rw [h]
 show Result.ok (slicedAt ⟨g,0,none⟩ 0 (Int.toNat k) 128 1) w=_
 simp [slicedAt,Addr.add_mid]
theorem B_mod (x:Nat):B (UInt8.ofNat (x % 256))=.int .u8 ((x % 256:Nat):Int):=by
 have:(UInt8.ofNat (x % 256)).toNat=x % 256:=by simp
 simp only [B,this]
set_option maxRecDepth 100000 in
set_option maxHeartbeats 6400000 in
theorem end_any {w:World} {g:Nat} {m:List UInt8} (h:HashAt w g m) (ht:Tabs w) :
  Calls Tryz.prog 83 #[.pointer (some ⟨g,0,none⟩)] w fun e w'=>e=.returned (.agg ((shaL m).map B).toArray)∧Keeps [] w w':=by
 obtain ⟨r,hI,hr⟩:=h.cells
 obtain ⟨s,hs⟩:∃ s,s=hState m:=⟨_,rfl⟩
 obtain ⟨k,hk⟩:∃ k,k=m.length % 64:=⟨_,rfl⟩
 obtain ⟨T,hT⟩:∃ T,T=m.length % 18446744073709551616:=⟨_,rfl⟩
 obtain ⟨q,hq⟩:∃ q,q=w.heap.size:=⟨_,rfl⟩
 rw [← hs,← hk,← hT] at hI
 obtain ⟨C,hC⟩:∃ C,C=hCells s r k T:=⟨_,rfl⟩
 have hrow:w.heap[g]?=some (.cells C.toArray 158 (0,0)):=by rw [hC];exact hI.row
 have hCl:C.length=74:=by rw [hC];simp [hCells,hI.len,S8.words]
 obtain ⟨Z,hZ,hZi⟩:∃ Z:List Value,Z.length=74∧(Tryz.prog.info? 158).map (fun i=>(i.zero,i.size,i.bytes))=some (some (.agg Z.toArray),74,112):=⟨_,rfl,info_hasher⟩
 obtain ⟨Y,hY,hYi⟩:∃ Y:List UInt8,Y=List.replicate 128 0∧(Tryz.prog.info? 180).map (fun i=>(i.zero,i.size,i.bytes))=some (some (.agg (Y.map B).toArray),128,128):=⟨_,rfl,info_128⟩
 obtain ⟨X,hX,hXi⟩:∃ X:Array Value,X=Array.replicate 32 (.int .u8 0)∧(Tryz.prog.info? 88).map (fun i=>(i.zero,i.size,i.bytes))=some (some (.agg X),32,32):=⟨_,rfl,info_digest⟩
 obtain ⟨w1,hw1⟩:∃ x,x=w.alloc (.cells X 88 (0,0)):=⟨_,rfl⟩
 obtain ⟨q1,hq1⟩:∃ x,x=w1.heap.size:=⟨_,rfl⟩
 obtain ⟨w2,hw2⟩:∃ x,x=w1.alloc (.cells Z.toArray 158 (0,0)):=⟨_,rfl⟩
 have k1:Keeps [] w w1:=by rw [hw1];exact (Keeps.refl _ _).alloc _
 have k2:Keeps [] w w2:=by rw [hw2];exact k1.alloc _
 have hrow1:w1.heap[g]?=some (.cells C.toArray 158 (0,0)):=(k1.block g (lt_of_heap hrow) (by simp)).trans hrow
 have hnew:w2.heap[q1]?=some (.cells Z.toArray 158 (0,0)):=by rw [hw2];exact heap_new_at hq1
 have hst:(Instr.storeAt 158 (.pointer (some ⟨q1,0,none⟩)) (.agg C.toArray)).run Tryz.prog w2=.ok () (w2.setCells q1 0 C):=by
  have:=run_storeAt_mid (P:=Tryz.prog) w2 q1 0 158 C.toArray (there_all hnew 0 _ (by simp [hZ,hCl])) (by rw [size_h74];simp [hCl]) (by rw [hC];exact hCells_one _ _ _ _)
  simpa using this
 have hI3:HIn (w2.setCells q1 0 C) q1 s r k T:=⟨by rw [← hC];exact store_all hnew (by rw [hZ,hCl]),hI.len⟩
 have hq1w:w.heap.size < q1:=by rw [hq1,hw1];simp
 have k3:Keeps [] w (w2.setCells q1 0 C):=k2.setCells (.inr (by omega)) _ _
 have hres:(w2.setCells q1 0 C).heap[q]?=some (.cells X 88 (0,0)):=by
  have e1:w1.heap[q]?=some (.cells X 88 (0,0)):=by rw [hw1];exact heap_new_at hq
  have e2:Keeps [q1] w1 (w2.setCells q1 0 C):=by rw [hw2];exact ((Keeps.refl _ _).alloc _).setCells (.inl (by simp)) _ _
  exact (e2.block q (lt_of_heap e1) (by simp;omega)).trans e1
 obtain ⟨w3,hw3⟩:∃ x,x=w2.setCells q1 0 C:=⟨_,rfl⟩
 rw [← hw3] at hst hI3 k3 hres
 obtain ⟨L,hL⟩:∃ L,L=m.length * 8 % 18446744073709551616:=⟨_,rfl⟩
 have uL:IntKind.u64.wrap ((T:Int) * 8)=(L:Int):=by rw [hT,hL];simp only [IntKind.wrap,IntKind.bits,IntKind.signed];simp;omega
 obtain ⟨q2,hq2⟩:∃ x,x=w3.heap.size:=⟨_,rfl⟩
 obtain ⟨w4,hw4⟩:∃ x,x=w3.alloc (.cells (Y.map B).toArray 180 (0,0)):=⟨_,rfl⟩
 have b4:Blk w4 q2 180 Y:=by rw [hw4];exact heap_new_at hq2
 have k34:Keeps [] w3 w4:=by rw [hw4];exact (Keeps.refl _ _).alloc _
 have hq12:q1 < q2:=by rw [hq2];exact hI3.lt
 have hYl:Y.length=128:=by rw [hY];simp
 have c40:w4.cell? ⟨q2,0,none⟩=some (B 0):=by rw [b4.cell 0 (by omega)];simp [hY]
 have f40:=b4.free 0
 have k64:k < 64:=by omega
 have ek:((k:Int) % 64)=(k:Int):=by omega
 obtain ⟨N,hN⟩:∃ N,N=(119 - k) % 64:=⟨_,rfl⟩
 have eN:(119 - (k:Int)) % 64=(N:Int):=by omega
 have hN64:N < 64:=by omega
 have HN:=Lib.hid hN
 have HW4:=Lib.hid hw4
 have HQ2:=Lib.hid hq2
 have HB4:=Lib.hid b4
 have HK34:=Lib.hid k34
 have HL:=Lib.hid hL
 have c3472:=(hI3.keeps k34 (by simp)).have_cell
 have c372:=hI3.have_cell
 have c373:=hI3.taken_cell
 have HROW1:=Lib.hid hrow1
 have HST:=Lib.hid hst
 have HSZ:=Lib.hid (show (Tryz.prog.info? 158).map (·.size)=some C.length by rw [hCl];exact size_h74)
 have HW1:=Lib.hid hw1
 have HW2:=Lib.hid hw2
 have HQ:=Lib.hid hq
 have HQ1:=Lib.hid hq1
 have HI3:=Lib.hid hI3
 have HK3:=Lib.hid k3
 have HRES:=Lib.hid hres
 have HZI:=Lib.hid hZi
 have HYI:=Lib.hid hYi
 have HXI:=Lib.hid hXi
 have HX:=Lib.hid hX
 have HY:=Lib.hid hY
 have HZ:=Lib.hid hZ
 have HT:=Lib.hid ht
 have HCC:=Lib.hid hC
 have HM:=Lib.hid (And.intro hk hT)
 have HS:=Lib.hid hs
 have HR:=Lib.hid hr
 clear hw1 k1 hrow1 hw2 hq hq1 k2 hN hw4 hq2 b4 k34 hL hYl hnew hst hI3 k3 hres hZi hYi hXi hX hY hZ ht hC hCl hI hrow h hk hT hs hr hw3
 go_enter Tryz.func83,Tryz.ntmps83
 go_upto_region 1 with (first | (refine wl_alloc rfl 88 rfl ?_;refine ⟨_,_,run_alloc _ HXI.out,?_⟩;try simp only [zA,zB,zC,zD,zE,zF,zG,zH]))
 try simp only [Value.cells]
 rw [← HW1.out,← HQ.out]
 go_upto_region 2 with (first | (refine wpList_load_mid rfl 158 (.tmp 12) rfl g 0 (by rfl) C _ (rangeAt_all HROW1.out) Tryz.underlying158 rfl HSZ.out ?_;try simp only [zA,zB,zC,zD,zE,zF,zG,zH]) | (refine wl_alloc rfl 158 rfl ?_;refine ⟨_,_,run_alloc _ HZI.out,?_⟩;(try simp only [Value.cells]);rw [← HW2.out,← HQ1.out];try simp only [zA,zB,zC,zD,zE,zF,zG,zH]) | (refine wl_store rfl 158 (.tmp 3) (.tmp 13) rfl ?_;refine ⟨_,HST.out,?_⟩;try simp only [zA,zB,zC,zD,zE,zF,zG,zH]))
 go_upto_region 4 with (first | (refine wl_alloc rfl 180 rfl ?_;refine ⟨_,_,run_alloc _ HYI.out,?_⟩;(try simp only [Value.cells]);rw [← HW4.out,← HQ2.out];try simp only [zA,zB,zC,zD,zE,zF,zG,zH]))
 go_wp2_with fail
 go_loopw [24] (fun iv wr=>∃ j:Nat,j≤8∧iv=.int .i64 j∧Blk wr q2 180 (over (Y.set 0 128) (N+1) ((beN 8 L).take j))∧Keeps [q2] w4 wr) (fun iv _=>8 - (intOf iv).toNat)
 case atStart =>
  refine ⟨0,by omega,rfl,?_,(Keeps.refl _ _).setCell (.inl (by simp)) _⟩
  have:=HB4.out.set 0 128
  rw [List.take_zero,show over (Y.set 0 128) (N+1) []=Y.set 0 128 by simp [over]]
  exact this
 case round =>
  obtain ⟨j,hj,rfl,hb,hkr⟩:=hrel
  have hlen:(over (Y.set 0 128) (N+1) ((beN 8 L).take j)).length=128:=by
   have:(Y.set 0 128).length=128:=by rw [HY.out];simp
   simp only [over,List.length_append,List.length_take,List.length_drop,this,beN_length]
   omega
  have HB:=Lib.hid hb
  have HKR:=Lib.hid hkr
  have HLEN:=Lib.hid hlen
  match j,hj with
  | 0,_ =>
   have c1:=HB.out.cell (N+1+0) (by rw [HLEN.out];omega)
   have f1:=HB.out.free (N+1+0)
   clear hb hkr hlen
   go_wp2_with fail
   go_roundw
   case rel =>
    refine ⟨1,by omega,by go_num,?_,HKR.out.setCell (.inl (by simp)) _⟩
    have hl8:(beN 8 L).length=8:=beN_length _ _
    have hb2:=HB.out.set (N+1+0) ((beN 8 L)[0]'(by omega))
    rw [over_take_succ (by omega) (by rw [hl8,HY.out];simp;omega)] at hb2
    have e:(beN 8 L)[0]'(by omega)=UInt8.ofNat ((L / 72057594037927936) % 256):=by simp only [beN8];rfl
    have e2:B ((beN 8 L)[0]'(by omega))=.int .u8 ((L:Int) / 72057594037927936 % 256):=by rw [e,B_mod];rfl
    rw [e2] at hb2
    exact hb2
   case measure=>simp [intOf]
  | 1,_ =>
   have c1:=HB.out.cell (N+1+1) (by rw [HLEN.out];omega)
   have f1:=HB.out.free (N+1+1)
   clear hb hkr hlen
   go_wp2_with fail
   go_roundw
   case rel =>
    refine ⟨2,by omega,by go_num,?_,HKR.out.setCell (.inl (by simp)) _⟩
    have hl8:(beN 8 L).length=8:=beN_length _ _
    have hb2:=HB.out.set (N+1+1) ((beN 8 L)[1]'(by omega))
    rw [over_take_succ (by omega) (by rw [hl8,HY.out];simp;omega)] at hb2
    have e:(beN 8 L)[1]'(by omega)=UInt8.ofNat ((L / 281474976710656) % 256):=by simp only [beN8];rfl
    have e2:B ((beN 8 L)[1]'(by omega))=.int .u8 ((L:Int) / 281474976710656 % 256):=by rw [e,B_mod];rfl
    rw [e2] at hb2
    exact hb2
   case measure=>simp [intOf]
  | 2,_ =>
   have c1:=HB.out.cell (N+1+2) (by rw [HLEN.out];omega)
   have f1:=HB.out.free (N+1+2)
   clear hb hkr hlen
   go_wp2_with fail
   go_roundw
   case rel =>
    refine ⟨3,by omega,by go_num,?_,HKR.out.setCell (.inl (by simp)) _⟩
    have hl8:(beN 8 L).length=8:=beN_length _ _
    have hb2:=HB.out.set (N+1+2) ((beN 8 L)[2]'(by omega))
    rw [over_take_succ (by omega) (by rw [hl8,HY.out];simp;omega)] at hb2
    have e:(beN 8 L)[2]'(by omega)=UInt8.ofNat ((L / 1099511627776) % 256):=by simp only [beN8];rfl
    have e2:B ((beN 8 L)[2]'(by omega))=.int .u8 ((L:Int) / 1099511627776 % 256):=by rw [e,B_mod];rfl
    rw [e2] at hb2
    exact hb2
   case measure=>simp [intOf]
  | 3,_ =>
   have c1:=HB.out.cell (N+1+3) (by rw [HLEN.out];omega)
   have f1:=HB.out.free (N+1+3)
   clear hb hkr hlen
   go_wp2_with fail
   go_roundw
   case rel =>
    refine ⟨4,by omega,by go_num,?_,HKR.out.setCell (.inl (by simp)) _⟩
    have hl8:(beN 8 L).length=8:=beN_length _ _
    have hb2:=HB.out.set (N+1+3) ((beN 8 L)[3]'(by omega))
    rw [over_take_succ (by omega) (by rw [hl8,HY.out];simp;omega)] at hb2
    have e:(beN 8 L)[3]'(by omega)=UInt8.ofNat ((L / 4294967296) % 256):=by simp only [beN8];rfl
    have e2:B ((beN 8 L)[3]'(by omega))=.int .u8 ((L:Int) / 4294967296 % 256):=by rw [e,B_mod];rfl
    rw [e2] at hb2
    exact hb2
   case measure=>simp [intOf]
  | 4,_ =>
   have c1:=HB.out.cell (N+1+4) (by rw [HLEN.out];omega)
   have f1:=HB.out.free (N+1+4)
   clear hb hkr hlen
   go_wp2_with fail
   go_roundw
   case rel =>
    refine ⟨5,by omega,by go_num,?_,HKR.out.setCell (.inl (by simp)) _⟩
    have hl8:(beN 8 L).length=8:=beN_length _ _
    have hb2:=HB.out.set (N+1+4) ((beN 8 L)[4]'(by omega))
    rw [over_take_succ (by omega) (by rw [hl8,HY.out];simp;omega)] at hb2
    have e:(beN 8 L)[4]'(by omega)=UInt8.ofNat ((L / 16777216) % 256):=by simp only [beN8];rfl
    have e2:B ((beN 8 L)[4]'(by omega))=.int .u8 ((L:Int) / 16777216 % 256):=by rw [e,B_mod];rfl
    rw [e2] at hb2
    exact hb2
   case measure=>simp [intOf]
  | 5,_ =>
   have c1:=HB.out.cell (N+1+5) (by rw [HLEN.out];omega)
   have f1:=HB.out.free (N+1+5)
   clear hb hkr hlen
   go_wp2_with fail
   go_roundw
   case rel =>
    refine ⟨6,by omega,by go_num,?_,HKR.out.setCell (.inl (by simp)) _⟩
    have hl8:(beN 8 L).length=8:=beN_length _ _
    have hb2:=HB.out.set (N+1+5) ((beN 8 L)[5]'(by omega))
    rw [over_take_succ (by omega) (by rw [hl8,HY.out];simp;omega)] at hb2
    have e:(beN 8 L)[5]'(by omega)=UInt8.ofNat ((L / 65536) % 256):=by simp only [beN8];rfl
    have e2:B ((beN 8 L)[5]'(by omega))=.int .u8 ((L:Int) / 65536 % 256):=by rw [e,B_mod];rfl
    rw [e2] at hb2
    exact hb2
   case measure=>simp [intOf]
  | 6,_ =>
   have c1:=HB.out.cell (N+1+6) (by rw [HLEN.out];omega)
   have f1:=HB.out.free (N+1+6)
   clear hb hkr hlen
   go_wp2_with fail
   go_roundw
   case rel =>
    refine ⟨7,by omega,by go_num,?_,HKR.out.setCell (.inl (by simp)) _⟩
    have hl8:(beN 8 L).length=8:=beN_length _ _
    have hb2:=HB.out.set (N+1+6) ((beN 8 L)[6]'(by omega))
    rw [over_take_succ (by omega) (by rw [hl8,HY.out];simp;omega)] at hb2
    have e:(beN 8 L)[6]'(by omega)=UInt8.ofNat ((L / 256) % 256):=by simp only [beN8];rfl
    have e2:B ((beN 8 L)[6]'(by omega))=.int .u8 ((L:Int) / 256 % 256):=by rw [e,B_mod];rfl
    rw [e2] at hb2
    exact hb2
   case measure=>simp [intOf]
  | 7,_ =>
   have c1:=HB.out.cell (N+1+7) (by rw [HLEN.out];omega)
   have f1:=HB.out.free (N+1+7)
   clear hb hkr hlen
   go_wp2_with fail
   go_roundw
   case rel =>
    refine ⟨8,by omega,by go_num,?_,HKR.out.setCell (.inl (by simp)) _⟩
    have hl8:(beN 8 L).length=8:=beN_length _ _
    have hb2:=HB.out.set (N+1+7) ((beN 8 L)[7]'(by omega))
    rw [over_take_succ (by omega) (by rw [hl8,HY.out];simp;omega)] at hb2
    have e:(beN 8 L)[7]'(by omega)=UInt8.ofNat ((L) % 256):=by simp only [beN8];rfl
    have e2:B ((beN 8 L)[7]'(by omega))=.int .u8 ((L:Int) % 256):=by rw [e,B_mod];rfl
    rw [e2] at hb2
    exact hb2
   case measure=>simp [intOf]
  | 8,_ =>
   have hz:(beN 8 L).take 8=beN 8 L:=List.take_of_length_le (by rw [beN_length];omega)
   have hbb:BytesAt wr (.slice (some ⟨q2,0,none⟩) ((N+9:Nat):Nat) 128) ((over (Y.set 0 128) (N+1) (beN 8 L)).take (N+9)):=by
    have h0:=HB.out
    rw [hz] at h0
    have:=Blk.part h0 0 (N+9) 128 (by have:=HLEN.out;rw [hz] at this;omega) (by omega) (by simp [maxLen])
    simpa using this
   have hpad:=pad_tail (m:=m) (V:=Y.set 0 128) (N:=N) (L:=L) (by rw [HN.out,HM.out.1]) HL.out (by rw [HY.out])
   obtain ⟨tl,htl⟩:∃ tl,tl=(over (Y.set 0 128) (N+1) (beN 8 L)).take (N+9):=⟨_,rfl⟩
   rw [← htl] at hbb hpad
   have hk3r:Keeps [q2] w3 wr:=(HK34.out.mono (G:=[q2]) (by simp)).trans (G:=[q2]) HKR.out (fun j hj=>.inl hj)
   have hIr:HIn wr q1 s r k T:=HI3.out.keeps hk3r (by simp;omega)
   have hH:HashAt wr q1 m:=⟨r,by rw [← HS.out,← HM.out.1,← HM.out.2];exact hIr,HR.out⟩
   have hkwr:Keeps [] w wr:=HK3.out.trans (G:=[q2]) hk3r (fun j hj=>.inr (by simp at hj;subst hj;omega))
   have htr:Tabs wr:=HT.out.keeps hkwr (by simp) (by simp)
   have hgl:=HT.out.lt
   have hwrite:=write_any hH hbb (fun k hk=>by have:=elem_block_some hk;omega) htr (by omega) (by omega)
   rw [hpad] at hwrite
   have HWRITE:=Lib.hid hwrite
   have HSL:=Lib.hid (show ∀ wx,(Instr.sliceAt 180 (.pointer (some ⟨q2,0,none⟩)) none (some (.int .i64 ((N+9:Nat):Int))) none).run Tryz.prog wx=.ok (.slice (some ⟨q2,0,none⟩) (N+9) 128) wx from fun wx=>run_128_to wx q2 (N+9) (by omega))
   have e9:(N:Int)+1+8=((N+9:Nat):Int):=by omega
   have HKWR:=Lib.hid hkwr
   have HK3R:=Lib.hid hk3r
   clear hb hkr hlen hz hbb hpad htl hk3r hIr hH hkwr htr hgl hwrite
   go_upto_region 11 with fail
   go_upto_region 12 with (first | (refine wl_slice rfl 180 (.tmp 5) none (some (.tmp 39)) none rfl ?_;(try simp only [Option.map]);refine ⟨_,_,by first | exact HSL.out _ | (rw [e9];exact HSL.out _) | (simp only [Act.eval];rw [e9];exact HSL.out _),?_⟩;try simp only [zA,zB,zC,zD,zE,zF,zG,zH]) | (go_at_call 82;refine HWRITE.out.mono ?_;rintro e w5 ⟨rfl,hH5,hk5⟩))
   obtain ⟨r5,hI5,_⟩:=hH5.cells
   obtain ⟨S,hS⟩:∃ S,S=hState (shaPad m):=⟨_,rfl⟩
   have hsha:shaL m=S.bytes:=by rw [hS];rfl
   rw [← hS] at hI5
   obtain ⟨s0,s1,s2,s3,s4,s5,s6,s7⟩:=S
   obtain ⟨Sb,hSb⟩:∃ Sb,Sb=S8.bytes ⟨s0,s1,s2,s3,s4,s5,s6,s7⟩:=⟨_,rfl⟩
   have hSl:Sb.length=32:=by rw [hSb];simp [S8.bytes,beN_length]
   rw [← hSb] at hsha
   obtain ⟨q3,hq3⟩:∃ x,x=w5.heap.size:=⟨_,rfl⟩
   obtain ⟨w6,hw6⟩:∃ x,x=w5.alloc (.cells X 88 (0,0)):=⟨_,rfl⟩
   have b6:Blk w6 q3 88 (List.replicate 32 (0:UInt8)):=by rw [hw6,HX.out];exact (heap_new_at hq3).trans rfl
   have k56:Keeps [] w5 w6:=by rw [hw6];exact (Keeps.refl _ _).alloc _
   have hI6:=hI5.keeps k56 (by simp)
   have hrng:w6.rangeAt q1 0 [.int .u32 s0,.int .u32 s1,.int .u32 s2,.int .u32 s3,.int .u32 s4,.int .u32 s5,.int .u32 s6,.int .u32 s7]:=rangeAt_part (xs:=[]) (ys:=[.int .u32 s0,.int .u32 s1,.int .u32 s2,.int .u32 s3,.int .u32 s4,.int .u32 s5,.int .u32 s6,.int .u32 s7]) hI6.row
   have hq23:q1 < q3:=by rw [hq3];exact hI5.lt
   have hres5:w5.heap[q]?=some (.cells X 88 (0,0)):=by
    have h3:=lt_of_heap HRES.out
    have hqlt:q≠q1∧q≠q2:=by
     have:=HQ.out
     omega
    have ha:=(HK3R.out.block q h3 (by simp;exact hqlt.2)).trans HRES.out
    exact (hk5.block q (lt_of_heap ha) (by simp;exact hqlt.1)).trans ha
   have hqq3:q < q3:=by rw [hq3];exact lt_of_heap hres5
   have hk05:Keeps [] w w6:=(HKWR.out.trans (G:=[q1]) hk5 (fun j hj=>.inr (by simp at hj;subst hj;omega))).trans (G:=[]) k56 (by simp)
   have hres6:=(k56.block q (lt_of_heap hres5) (by simp)).trans hres5
   have HRNG:=Lib.hid hrng
   have HW6:=Lib.hid hw6
   have HQ3:=Lib.hid hq3
   have HB6:=Lib.hid b6
   have HK06:=Lib.hid hk05
   have HRES6:=Lib.hid hres6
   have HSHA:=Lib.hid hsha
   have HSB:=Lib.hid hSb
   have HSL32:=Lib.hid hSl
   clear hH5 hk5 hI5 hS hsha hSb hSl hq3 hw6 b6 k56 hI6 hrng hres5 hk05 hres6
   go_upto_region 13 with (first | (refine wl_alloc rfl 88 rfl ?_;refine ⟨_,_,run_alloc _ HXI.out,?_⟩;(try simp only [Value.cells]);rw [← HW6.out,← HQ3.out];try simp only [zA,zB,zC,zD,zE,zF,zG,zH]))
   go_wp2_with (first | (refine wpList_load_mid rfl 154 (.tmp 42) rfl q1 0 (by rfl) [.int .u32 s0,.int .u32 s1,.int .u32 s2,.int .u32 s3,.int .u32 s4,.int .u32 s5,.int .u32 s6,.int .u32 s7] _ HRNG.out Tryz.underlying154 rfl (by kernel_rfl) ?_;try simp only [zA,zB,zC,zD,zE,zF,zG,zH]))
   go_loopw [44] (fun iv wx=>∃ j:Nat,j≤8∧iv=.int .i64 j∧Blk wx q3 88 (over (List.replicate 32 (0:UInt8)) 0 (Sb.take (4 * j)))∧Keeps [q3] w6 wx) (fun iv _=>8 - (intOf iv).toNat)
   case atStart=>exact ⟨0,by omega,rfl,HB6.out,Keeps.refl _ _⟩
   case round =>
    obtain ⟨j,hj,rfl,hbd,hkd⟩:=hrel
    have hld:(over (List.replicate 32 (0:UInt8)) 0 (Sb.take (4 * j))).length=32:=by
     have:=HSL32.out
     simp only [over,List.length_append,List.length_take,List.length_drop,List.length_replicate]
     omega
    have HBD:=Lib.hid hbd
    have HKD:=Lib.hid hkd
    have HLD:=Lib.hid hld
    match j,hj with
    | 0,_ =>
     have i1:∀ w,(Instr.index 154 (.agg #[.int .u32 s0,.int .u32 s1,.int .u32 s2,.int .u32 s3,.int .u32 s4,.int .u32 s5,.int .u32 s6,.int .u32 s7]) (.int .i64 ((0:Nat):Int))).run Tryz.prog w=.ok (.int .u32 s0) w:=fun _=>by kernel_rfl
     have c0:=HBD.out.cell 0 (by rw [HLD.out];omega)
     have f0:=HBD.out.free 0
     have c1:=HBD.out.cell 1 (by rw [HLD.out];omega)
     have f1:=HBD.out.free 1
     have c2:=HBD.out.cell 2 (by rw [HLD.out];omega)
     have f2:=HBD.out.free 2
     have c3:=HBD.out.cell 3 (by rw [HLD.out];omega)
     have f3:=HBD.out.free 3
     clear hbd hkd hld
     go_wp2_with (first | (refine wl_index rfl 154 (.tmp 43) (.tmp 44) rfl ?_;refine ⟨_,_,i1 _,?_⟩;try simp only [zA,zB,zC,zD,zE,zF,zG,zH]))
     go_roundw
     case rel =>
      refine ⟨1,by omega,by go_num,?_,(((HKD.out.setCell (.inl (by simp)) _).setCell (.inl (by simp)) _).setCell (.inl (by simp)) _).setCell (.inl (by simp)) _⟩
      have hb0:=HBD.out
      have e0:B (Sb[0]'(by rw [HSL32.out];omega))=.int .u8 ((s0:Int) / 16777216 % 256):=by rw [show Sb[0]'(by rw [HSL32.out];omega)=UInt8.ofNat ((s0 / 16777216) % 256) from by simp only [HSB.out,S8.bytes,beN4];rfl,B_mod];rfl
      have hb1:=hb0.set (0+0) (Sb[0]'(by rw [HSL32.out];omega))
      rw [over_take_succ (by rw [HSL32.out];omega) (by rw [HSL32.out];simp),e0] at hb1
      have e1:B (Sb[1]'(by rw [HSL32.out];omega))=.int .u8 ((s0:Int) / 65536 % 256):=by rw [show Sb[1]'(by rw [HSL32.out];omega)=UInt8.ofNat ((s0 / 65536) % 256) from by simp only [HSB.out,S8.bytes,beN4];rfl,B_mod];rfl
      have hb2:=hb1.set (0+1) (Sb[1]'(by rw [HSL32.out];omega))
      rw [over_take_succ (by rw [HSL32.out];omega) (by rw [HSL32.out];simp),e1] at hb2
      have e2:B (Sb[2]'(by rw [HSL32.out];omega))=.int .u8 ((s0:Int) / 256 % 256):=by rw [show Sb[2]'(by rw [HSL32.out];omega)=UInt8.ofNat ((s0 / 256) % 256) from by simp only [HSB.out,S8.bytes,beN4];rfl,B_mod];rfl
      have hb3:=hb2.set (0+2) (Sb[2]'(by rw [HSL32.out];omega))
      rw [over_take_succ (by rw [HSL32.out];omega) (by rw [HSL32.out];simp),e2] at hb3
      have e3:B (Sb[3]'(by rw [HSL32.out];omega))=.int .u8 ((s0:Int) % 256):=by rw [show Sb[3]'(by rw [HSL32.out];omega)=UInt8.ofNat ((s0) % 256) from by simp only [HSB.out,S8.bytes,beN4];rfl,B_mod];rfl
      have hb4:=hb3.set (0+3) (Sb[3]'(by rw [HSL32.out];omega))
      rw [over_take_succ (by rw [HSL32.out];omega) (by rw [HSL32.out];simp),e3] at hb4
      exact hb4
     case measure=>simp [intOf]
    | 1,_ =>
     have i1:∀ w,(Instr.index 154 (.agg #[.int .u32 s0,.int .u32 s1,.int .u32 s2,.int .u32 s3,.int .u32 s4,.int .u32 s5,.int .u32 s6,.int .u32 s7]) (.int .i64 ((1:Nat):Int))).run Tryz.prog w=.ok (.int .u32 s1) w:=fun _=>by kernel_rfl
     have c0:=HBD.out.cell 4 (by rw [HLD.out];omega)
     have f0:=HBD.out.free 4
     have c1:=HBD.out.cell 5 (by rw [HLD.out];omega)
     have f1:=HBD.out.free 5
     have c2:=HBD.out.cell 6 (by rw [HLD.out];omega)
     have f2:=HBD.out.free 6
     have c3:=HBD.out.cell 7 (by rw [HLD.out];omega)
     have f3:=HBD.out.free 7
     clear hbd hkd hld
     go_wp2_with (first | (refine wl_index rfl 154 (.tmp 43) (.tmp 44) rfl ?_;refine ⟨_,_,i1 _,?_⟩;try simp only [zA,zB,zC,zD,zE,zF,zG,zH]))
     go_roundw
     case rel =>
      refine ⟨2,by omega,by go_num,?_,(((HKD.out.setCell (.inl (by simp)) _).setCell (.inl (by simp)) _).setCell (.inl (by simp)) _).setCell (.inl (by simp)) _⟩
      have hb0:=HBD.out
      have e0:B (Sb[4]'(by rw [HSL32.out];omega))=.int .u8 ((s1:Int) / 16777216 % 256):=by rw [show Sb[4]'(by rw [HSL32.out];omega)=UInt8.ofNat ((s1 / 16777216) % 256) from by simp only [HSB.out,S8.bytes,beN4];rfl,B_mod];rfl
      have hb1:=hb0.set (0+4) (Sb[4]'(by rw [HSL32.out];omega))
      rw [over_take_succ (by rw [HSL32.out];omega) (by rw [HSL32.out];simp),e0] at hb1
      have e1:B (Sb[5]'(by rw [HSL32.out];omega))=.int .u8 ((s1:Int) / 65536 % 256):=by rw [show Sb[5]'(by rw [HSL32.out];omega)=UInt8.ofNat ((s1 / 65536) % 256) from by simp only [HSB.out,S8.bytes,beN4];rfl,B_mod];rfl
      have hb2:=hb1.set (0+5) (Sb[5]'(by rw [HSL32.out];omega))
      rw [over_take_succ (by rw [HSL32.out];omega) (by rw [HSL32.out];simp),e1] at hb2
      have e2:B (Sb[6]'(by rw [HSL32.out];omega))=.int .u8 ((s1:Int) / 256 % 256):=by rw [show Sb[6]'(by rw [HSL32.out];omega)=UInt8.ofNat ((s1 / 256) % 256) from by simp only [HSB.out,S8.bytes,beN4];rfl,B_mod];rfl
      have hb3:=hb2.set (0+6) (Sb[6]'(by rw [HSL32.out];omega))
      rw [over_take_succ (by rw [HSL32.out];omega) (by rw [HSL32.out];simp),e2] at hb3
      have e3:B (Sb[7]'(by rw [HSL32.out];omega))=.int .u8 ((s1:Int) % 256):=by rw [show Sb[7]'(by rw [HSL32.out];omega)=UInt8.ofNat ((s1) % 256) from by simp only [HSB.out,S8.bytes,beN4];rfl,B_mod];rfl
      have hb4:=hb3.set (0+7) (Sb[7]'(by rw [HSL32.out];omega))
      rw [over_take_succ (by rw [HSL32.out];omega) (by rw [HSL32.out];simp),e3] at hb4
      exact hb4
     case measure=>simp [intOf]
    | 2,_ =>
     have i1:∀ w,(Instr.index 154 (.agg #[.int .u32 s0,.int .u32 s1,.int .u32 s2,.int .u32 s3,.int .u32 s4,.int .u32 s5,.int .u32 s6,.int .u32 s7]) (.int .i64 ((2:Nat):Int))).run Tryz.prog w=.ok (.int .u32 s2) w:=fun _=>by kernel_rfl
     have c0:=HBD.out.cell 8 (by rw [HLD.out];omega)
     have f0:=HBD.out.free 8
     have c1:=HBD.out.cell 9 (by rw [HLD.out];omega)
     have f1:=HBD.out.free 9
     have c2:=HBD.out.cell 10 (by rw [HLD.out];omega)
     have f2:=HBD.out.free 10
     have c3:=HBD.out.cell 11 (by rw [HLD.out];omega)
     have f3:=HBD.out.free 11
     clear hbd hkd hld
     go_wp2_with (first | (refine wl_index rfl 154 (.tmp 43) (.tmp 44) rfl ?_;refine ⟨_,_,i1 _,?_⟩;try simp only [zA,zB,zC,zD,zE,zF,zG,zH]))
     go_roundw
     case rel =>
      refine ⟨3,by omega,by go_num,?_,(((HKD.out.setCell (.inl (by simp)) _).setCell (.inl (by simp)) _).setCell (.inl (by simp)) _).setCell (.inl (by simp)) _⟩
      have hb0:=HBD.out
      have e0:B (Sb[8]'(by rw [HSL32.out];omega))=.int .u8 ((s2:Int) / 16777216 % 256):=by rw [show Sb[8]'(by rw [HSL32.out];omega)=UInt8.ofNat ((s2 / 16777216) % 256) from by simp only [HSB.out,S8.bytes,beN4];rfl,B_mod];rfl
      have hb1:=hb0.set (0+8) (Sb[8]'(by rw [HSL32.out];omega))
      rw [over_take_succ (by rw [HSL32.out];omega) (by rw [HSL32.out];simp),e0] at hb1
      have e1:B (Sb[9]'(by rw [HSL32.out];omega))=.int .u8 ((s2:Int) / 65536 % 256):=by rw [show Sb[9]'(by rw [HSL32.out];omega)=UInt8.ofNat ((s2 / 65536) % 256) from by simp only [HSB.out,S8.bytes,beN4];rfl,B_mod];rfl
      have hb2:=hb1.set (0+9) (Sb[9]'(by rw [HSL32.out];omega))
      rw [over_take_succ (by rw [HSL32.out];omega) (by rw [HSL32.out];simp),e1] at hb2
      have e2:B (Sb[10]'(by rw [HSL32.out];omega))=.int .u8 ((s2:Int) / 256 % 256):=by rw [show Sb[10]'(by rw [HSL32.out];omega)=UInt8.ofNat ((s2 / 256) % 256) from by simp only [HSB.out,S8.bytes,beN4];rfl,B_mod];rfl
      have hb3:=hb2.set (0+10) (Sb[10]'(by rw [HSL32.out];omega))
      rw [over_take_succ (by rw [HSL32.out];omega) (by rw [HSL32.out];simp),e2] at hb3
      have e3:B (Sb[11]'(by rw [HSL32.out];omega))=.int .u8 ((s2:Int) % 256):=by rw [show Sb[11]'(by rw [HSL32.out];omega)=UInt8.ofNat ((s2) % 256) from by simp only [HSB.out,S8.bytes,beN4];rfl,B_mod];rfl
      have hb4:=hb3.set (0+11) (Sb[11]'(by rw [HSL32.out];omega))
      rw [over_take_succ (by rw [HSL32.out];omega) (by rw [HSL32.out];simp),e3] at hb4
      exact hb4
     case measure=>simp [intOf]
    | 3,_ =>
     have i1:∀ w,(Instr.index 154 (.agg #[.int .u32 s0,.int .u32 s1,.int .u32 s2,.int .u32 s3,.int .u32 s4,.int .u32 s5,.int .u32 s6,.int .u32 s7]) (.int .i64 ((3:Nat):Int))).run Tryz.prog w=.ok (.int .u32 s3) w:=fun _=>by kernel_rfl
     have c0:=HBD.out.cell 12 (by rw [HLD.out];omega)
     have f0:=HBD.out.free 12
     have c1:=HBD.out.cell 13 (by rw [HLD.out];omega)
     have f1:=HBD.out.free 13
     have c2:=HBD.out.cell 14 (by rw [HLD.out];omega)
     have f2:=HBD.out.free 14
     have c3:=HBD.out.cell 15 (by rw [HLD.out];omega)
     have f3:=HBD.out.free 15
     clear hbd hkd hld
     go_wp2_with (first | (refine wl_index rfl 154 (.tmp 43) (.tmp 44) rfl ?_;refine ⟨_,_,i1 _,?_⟩;try simp only [zA,zB,zC,zD,zE,zF,zG,zH]))
     go_roundw
     case rel =>
      refine ⟨4,by omega,by go_num,?_,(((HKD.out.setCell (.inl (by simp)) _).setCell (.inl (by simp)) _).setCell (.inl (by simp)) _).setCell (.inl (by simp)) _⟩
      have hb0:=HBD.out
      have e0:B (Sb[12]'(by rw [HSL32.out];omega))=.int .u8 ((s3:Int) / 16777216 % 256):=by rw [show Sb[12]'(by rw [HSL32.out];omega)=UInt8.ofNat ((s3 / 16777216) % 256) from by simp only [HSB.out,S8.bytes,beN4];rfl,B_mod];rfl
      have hb1:=hb0.set (0+12) (Sb[12]'(by rw [HSL32.out];omega))
      rw [over_take_succ (by rw [HSL32.out];omega) (by rw [HSL32.out];simp),e0] at hb1
      have e1:B (Sb[13]'(by rw [HSL32.out];omega))=.int .u8 ((s3:Int) / 65536 % 256):=by rw [show Sb[13]'(by rw [HSL32.out];omega)=UInt8.ofNat ((s3 / 65536) % 256) from by simp only [HSB.out,S8.bytes,beN4];rfl,B_mod];rfl
      have hb2:=hb1.set (0+13) (Sb[13]'(by rw [HSL32.out];omega))
      rw [over_take_succ (by rw [HSL32.out];omega) (by rw [HSL32.out];simp),e1] at hb2
      have e2:B (Sb[14]'(by rw [HSL32.out];omega))=.int .u8 ((s3:Int) / 256 % 256):=by rw [show Sb[14]'(by rw [HSL32.out];omega)=UInt8.ofNat ((s3 / 256) % 256) from by simp only [HSB.out,S8.bytes,beN4];rfl,B_mod];rfl
      have hb3:=hb2.set (0+14) (Sb[14]'(by rw [HSL32.out];omega))
      rw [over_take_succ (by rw [HSL32.out];omega) (by rw [HSL32.out];simp),e2] at hb3
      have e3:B (Sb[15]'(by rw [HSL32.out];omega))=.int .u8 ((s3:Int) % 256):=by rw [show Sb[15]'(by rw [HSL32.out];omega)=UInt8.ofNat ((s3) % 256) from by simp only [HSB.out,S8.bytes,beN4];rfl,B_mod];rfl
      have hb4:=hb3.set (0+15) (Sb[15]'(by rw [HSL32.out];omega))
      rw [over_take_succ (by rw [HSL32.out];omega) (by rw [HSL32.out];simp),e3] at hb4
      exact hb4
     case measure=>simp [intOf]
    | 4,_ =>
     have i1:∀ w,(Instr.index 154 (.agg #[.int .u32 s0,.int .u32 s1,.int .u32 s2,.int .u32 s3,.int .u32 s4,.int .u32 s5,.int .u32 s6,.int .u32 s7]) (.int .i64 ((4:Nat):Int))).run Tryz.prog w=.ok (.int .u32 s4) w:=fun _=>by kernel_rfl
     have c0:=HBD.out.cell 16 (by rw [HLD.out];omega)
     have f0:=HBD.out.free 16
     have c1:=HBD.out.cell 17 (by rw [HLD.out];omega)
     have f1:=HBD.out.free 17
     have c2:=HBD.out.cell 18 (by rw [HLD.out];omega)
     have f2:=HBD.out.free 18
     have c3:=HBD.out.cell 19 (by rw [HLD.out];omega)
     have f3:=HBD.out.free 19
     clear hbd hkd hld
     go_wp2_with (first | (refine wl_index rfl 154 (.tmp 43) (.tmp 44) rfl ?_;refine ⟨_,_,i1 _,?_⟩;try simp only [zA,zB,zC,zD,zE,zF,zG,zH]))
     go_roundw
     case rel =>
      refine ⟨5,by omega,by go_num,?_,(((HKD.out.setCell (.inl (by simp)) _).setCell (.inl (by simp)) _).setCell (.inl (by simp)) _).setCell (.inl (by simp)) _⟩
      have hb0:=HBD.out
      have e0:B (Sb[16]'(by rw [HSL32.out];omega))=.int .u8 ((s4:Int) / 16777216 % 256):=by rw [show Sb[16]'(by rw [HSL32.out];omega)=UInt8.ofNat ((s4 / 16777216) % 256) from by simp only [HSB.out,S8.bytes,beN4];rfl,B_mod];rfl
      have hb1:=hb0.set (0+16) (Sb[16]'(by rw [HSL32.out];omega))
      rw [over_take_succ (by rw [HSL32.out];omega) (by rw [HSL32.out];simp),e0] at hb1
      have e1:B (Sb[17]'(by rw [HSL32.out];omega))=.int .u8 ((s4:Int) / 65536 % 256):=by rw [show Sb[17]'(by rw [HSL32.out];omega)=UInt8.ofNat ((s4 / 65536) % 256) from by simp only [HSB.out,S8.bytes,beN4];rfl,B_mod];rfl
      have hb2:=hb1.set (0+17) (Sb[17]'(by rw [HSL32.out];omega))
      rw [over_take_succ (by rw [HSL32.out];omega) (by rw [HSL32.out];simp),e1] at hb2
      have e2:B (Sb[18]'(by rw [HSL32.out];omega))=.int .u8 ((s4:Int) / 256 % 256):=by rw [show Sb[18]'(by rw [HSL32.out];omega)=UInt8.ofNat ((s4 / 256) % 256) from by simp only [HSB.out,S8.bytes,beN4];rfl,B_mod];rfl
      have hb3:=hb2.set (0+18) (Sb[18]'(by rw [HSL32.out];omega))
      rw [over_take_succ (by rw [HSL32.out];omega) (by rw [HSL32.out];simp),e2] at hb3
      have e3:B (Sb[19]'(by rw [HSL32.out];omega))=.int .u8 ((s4:Int) % 256):=by rw [show Sb[19]'(by rw [HSL32.out];omega)=UInt8.ofNat ((s4) % 256) from by simp only [HSB.out,S8.bytes,beN4];rfl,B_mod];rfl
      have hb4:=hb3.set (0+19) (Sb[19]'(by rw [HSL32.out];omega))
      rw [over_take_succ (by rw [HSL32.out];omega) (by rw [HSL32.out];simp),e3] at hb4
      exact hb4
     case measure=>simp [intOf]
    | 5,_ =>
     have i1:∀ w,(Instr.index 154 (.agg #[.int .u32 s0,.int .u32 s1,.int .u32 s2,.int .u32 s3,.int .u32 s4,.int .u32 s5,.int .u32 s6,.int .u32 s7]) (.int .i64 ((5:Nat):Int))).run Tryz.prog w=.ok (.int .u32 s5) w:=fun _=>by kernel_rfl
     have c0:=HBD.out.cell 20 (by rw [HLD.out];omega)
     have f0:=HBD.out.free 20
     have c1:=HBD.out.cell 21 (by rw [HLD.out];omega)
     have f1:=HBD.out.free 21
     have c2:=HBD.out.cell 22 (by rw [HLD.out];omega)
     have f2:=HBD.out.free 22
     have c3:=HBD.out.cell 23 (by rw [HLD.out];omega)
     have f3:=HBD.out.free 23
     clear hbd hkd hld
     go_wp2_with (first | (refine wl_index rfl 154 (.tmp 43) (.tmp 44) rfl ?_;refine ⟨_,_,i1 _,?_⟩;try simp only [zA,zB,zC,zD,zE,zF,zG,zH]))
     go_roundw
     case rel =>
      refine ⟨6,by omega,by go_num,?_,(((HKD.out.setCell (.inl (by simp)) _).setCell (.inl (by simp)) _).setCell (.inl (by simp)) _).setCell (.inl (by simp)) _⟩
      have hb0:=HBD.out
      have e0:B (Sb[20]'(by rw [HSL32.out];omega))=.int .u8 ((s5:Int) / 16777216 % 256):=by rw [show Sb[20]'(by rw [HSL32.out];omega)=UInt8.ofNat ((s5 / 16777216) % 256) from by simp only [HSB.out,S8.bytes,beN4];rfl,B_mod];rfl
      have hb1:=hb0.set (0+20) (Sb[20]'(by rw [HSL32.out];omega))
      rw [over_take_succ (by rw [HSL32.out];omega) (by rw [HSL32.out];simp),e0] at hb1
      have e1:B (Sb[21]'(by rw [HSL32.out];omega))=.int .u8 ((s5:Int) / 65536 % 256):=by rw [show Sb[21]'(by rw [HSL32.out];omega)=UInt8.ofNat ((s5 / 65536) % 256) from by simp only [HSB.out,S8.bytes,beN4];rfl,B_mod];rfl
      have hb2:=hb1.set (0+21) (Sb[21]'(by rw [HSL32.out];omega))
      rw [over_take_succ (by rw [HSL32.out];omega) (by rw [HSL32.out];simp),e1] at hb2
      have e2:B (Sb[22]'(by rw [HSL32.out];omega))=.int .u8 ((s5:Int) / 256 % 256):=by rw [show Sb[22]'(by rw [HSL32.out];omega)=UInt8.ofNat ((s5 / 256) % 256) from by simp only [HSB.out,S8.bytes,beN4];rfl,B_mod];rfl
      have hb3:=hb2.set (0+22) (Sb[22]'(by rw [HSL32.out];omega))
      rw [over_take_succ (by rw [HSL32.out];omega) (by rw [HSL32.out];simp),e2] at hb3
      have e3:B (Sb[23]'(by rw [HSL32.out];omega))=.int .u8 ((s5:Int) % 256):=by rw [show Sb[23]'(by rw [HSL32.out];omega)=UInt8.ofNat ((s5) % 256) from by simp only [HSB.out,S8.bytes,beN4];rfl,B_mod];rfl
      have hb4:=hb3.set (0+23) (Sb[23]'(by rw [HSL32.out];omega))
      rw [over_take_succ (by rw [HSL32.out];omega) (by rw [HSL32.out];simp),e3] at hb4
      exact hb4
     case measure=>simp [intOf]
    | 6,_ =>
     have i1:∀ w,(Instr.index 154 (.agg #[.int .u32 s0,.int .u32 s1,.int .u32 s2,.int .u32 s3,.int .u32 s4,.int .u32 s5,.int .u32 s6,.int .u32 s7]) (.int .i64 ((6:Nat):Int))).run Tryz.prog w=.ok (.int .u32 s6) w:=fun _=>by kernel_rfl
     have c0:=HBD.out.cell 24 (by rw [HLD.out];omega)
     have f0:=HBD.out.free 24
     have c1:=HBD.out.cell 25 (by rw [HLD.out];omega)
     have f1:=HBD.out.free 25
     have c2:=HBD.out.cell 26 (by rw [HLD.out];omega)
     have f2:=HBD.out.free 26
     have c3:=HBD.out.cell 27 (by rw [HLD.out];omega)
     have f3:=HBD.out.free 27
     clear hbd hkd hld
     go_wp2_with (first | (refine wl_index rfl 154 (.tmp 43) (.tmp 44) rfl ?_;refine ⟨_,_,i1 _,?_⟩;try simp only [zA,zB,zC,zD,zE,zF,zG,zH]))
     go_roundw
     case rel =>
      refine ⟨7,by omega,by go_num,?_,(((HKD.out.setCell (.inl (by simp)) _).setCell (.inl (by simp)) _).setCell (.inl (by simp)) _).setCell (.inl (by simp)) _⟩
      have hb0:=HBD.out
      have e0:B (Sb[24]'(by rw [HSL32.out];omega))=.int .u8 ((s6:Int) / 16777216 % 256):=by rw [show Sb[24]'(by rw [HSL32.out];omega)=UInt8.ofNat ((s6 / 16777216) % 256) from by simp only [HSB.out,S8.bytes,beN4];rfl,B_mod];rfl
      have hb1:=hb0.set (0+24) (Sb[24]'(by rw [HSL32.out];omega))
      rw [over_take_succ (by rw [HSL32.out];omega) (by rw [HSL32.out];simp),e0] at hb1
      have e1:B (Sb[25]'(by rw [HSL32.out];omega))=.int .u8 ((s6:Int) / 65536 % 256):=by rw [show Sb[25]'(by rw [HSL32.out];omega)=UInt8.ofNat ((s6 / 65536) % 256) from by simp only [HSB.out,S8.bytes,beN4];rfl,B_mod];rfl
      have hb2:=hb1.set (0+25) (Sb[25]'(by rw [HSL32.out];omega))
      rw [over_take_succ (by rw [HSL32.out];omega) (by rw [HSL32.out];simp),e1] at hb2
      have e2:B (Sb[26]'(by rw [HSL32.out];omega))=.int .u8 ((s6:Int) / 256 % 256):=by rw [show Sb[26]'(by rw [HSL32.out];omega)=UInt8.ofNat ((s6 / 256) % 256) from by simp only [HSB.out,S8.bytes,beN4];rfl,B_mod];rfl
      have hb3:=hb2.set (0+26) (Sb[26]'(by rw [HSL32.out];omega))
      rw [over_take_succ (by rw [HSL32.out];omega) (by rw [HSL32.out];simp),e2] at hb3
      have e3:B (Sb[27]'(by rw [HSL32.out];omega))=.int .u8 ((s6:Int) % 256):=by rw [show Sb[27]'(by rw [HSL32.out];omega)=UInt8.ofNat ((s6) % 256) from by simp only [HSB.out,S8.bytes,beN4];rfl,B_mod];rfl
      have hb4:=hb3.set (0+27) (Sb[27]'(by rw [HSL32.out];omega))
      rw [over_take_succ (by rw [HSL32.out];omega) (by rw [HSL32.out];simp),e3] at hb4
      exact hb4
     case measure=>simp [intOf]
    | 7,_ =>
     have i1:∀ w,(Instr.index 154 (.agg #[.int .u32 s0,.int .u32 s1,.int .u32 s2,.int .u32 s3,.int .u32 s4,.int .u32 s5,.int .u32 s6,.int .u32 s7]) (.int .i64 ((7:Nat):Int))).run Tryz.prog w=.ok (.int .u32 s7) w:=fun _=>by kernel_rfl
     have c0:=HBD.out.cell 28 (by rw [HLD.out];omega)
     have f0:=HBD.out.free 28
     have c1:=HBD.out.cell 29 (by rw [HLD.out];omega)
     have f1:=HBD.out.free 29
     have c2:=HBD.out.cell 30 (by rw [HLD.out];omega)
     have f2:=HBD.out.free 30
     have c3:=HBD.out.cell 31 (by rw [HLD.out];omega)
     have f3:=HBD.out.free 31
     clear hbd hkd hld
     go_wp2_with (first | (refine wl_index rfl 154 (.tmp 43) (.tmp 44) rfl ?_;refine ⟨_,_,i1 _,?_⟩;try simp only [zA,zB,zC,zD,zE,zF,zG,zH]))
     go_roundw
     case rel =>
      refine ⟨8,by omega,by go_num,?_,(((HKD.out.setCell (.inl (by simp)) _).setCell (.inl (by simp)) _).setCell (.inl (by simp)) _).setCell (.inl (by simp)) _⟩
      have hb0:=HBD.out
      have e0:B (Sb[28]'(by rw [HSL32.out];omega))=.int .u8 ((s7:Int) / 16777216 % 256):=by rw [show Sb[28]'(by rw [HSL32.out];omega)=UInt8.ofNat ((s7 / 16777216) % 256) from by simp only [HSB.out,S8.bytes,beN4];rfl,B_mod];rfl
      have hb1:=hb0.set (0+28) (Sb[28]'(by rw [HSL32.out];omega))
      rw [over_take_succ (by rw [HSL32.out];omega) (by rw [HSL32.out];simp),e0] at hb1
      have e1:B (Sb[29]'(by rw [HSL32.out];omega))=.int .u8 ((s7:Int) / 65536 % 256):=by rw [show Sb[29]'(by rw [HSL32.out];omega)=UInt8.ofNat ((s7 / 65536) % 256) from by simp only [HSB.out,S8.bytes,beN4];rfl,B_mod];rfl
      have hb2:=hb1.set (0+29) (Sb[29]'(by rw [HSL32.out];omega))
      rw [over_take_succ (by rw [HSL32.out];omega) (by rw [HSL32.out];simp),e1] at hb2
      have e2:B (Sb[30]'(by rw [HSL32.out];omega))=.int .u8 ((s7:Int) / 256 % 256):=by rw [show Sb[30]'(by rw [HSL32.out];omega)=UInt8.ofNat ((s7 / 256) % 256) from by simp only [HSB.out,S8.bytes,beN4];rfl,B_mod];rfl
      have hb3:=hb2.set (0+30) (Sb[30]'(by rw [HSL32.out];omega))
      rw [over_take_succ (by rw [HSL32.out];omega) (by rw [HSL32.out];simp),e2] at hb3
      have e3:B (Sb[31]'(by rw [HSL32.out];omega))=.int .u8 ((s7:Int) % 256):=by rw [show Sb[31]'(by rw [HSL32.out];omega)=UInt8.ofNat ((s7) % 256) from by simp only [HSB.out,S8.bytes,beN4];rfl,B_mod];rfl
      have hb4:=hb3.set (0+31) (Sb[31]'(by rw [HSL32.out];omega))
      rw [over_take_succ (by rw [HSL32.out];omega) (by rw [HSL32.out];simp),e3] at hb4
      exact hb4
     case measure=>simp [intOf]
    | 8,_ =>
     have hbe:Blk wr q3 88 Sb:=by
      have:=HBD.out
      rw [show over (List.replicate 32 (0:UInt8)) 0 (Sb.take (4 * 8))=Sb by
       rw [List.take_of_length_le (by rw [HSL32.out];omega)]
       simp only [over,List.take_zero,List.nil_append,HSL32.out,List.drop_replicate]
       simp] at this
      exact this
     have hres7:wr.heap[q]?=some (.cells (Array.replicate 32 (Value.int .u8 0)) 88 (0,0)):=by
      rw [← HX.out]
      exact (HKD.out.block q (lt_of_heap HRES6.out) (by simp;omega)).trans HRES6.out
     have hkk:Keeps [] w wr:=HK06.out.trans (G:=[q3]) HKD.out (fun j hj=>.inr (by simp at hj;subst hj;omega))
     have HBE:=Lib.hid hbe
     have HRES7:=Lib.hid hres7
     have HKK:=Lib.hid hkk
     have HSD:=Lib.hid (show (Tryz.prog.info? 88).map (·.size)=some (Sb.map B).length by rw [List.length_map,HSL32.out];exact dg_size)
     clear hbd hkd hld hbe hres7 hkk
     go_wp2_with (first | (refine wpList_load_mid rfl 88 (.tmp 8) rfl q3 0 (by rfl) (Sb.map B) _ (rangeAt_all HBE.out) Tryz.underlying88 rfl HSD.out ?_;try simp only [zA,zB,zC,zD,zE,zF,zG,zH]) | (refine wl_store rfl 88 (.tmp 2) (.tmp 75) rfl ?_;refine ⟨_,dg_run_store HRES7.out HSL32.out,?_⟩;try simp only [zA,zB,zC,zD,zE,zF,zG,zH]))
     rw [HSHA.out]
     refine bodyPost_ret (results_row (cs:=Sb.map B) rfl rfl (rangeAt_all (dg_store HRES7.out HSL32.out)) Tryz.underlying88 rfl HSD.out) rfl ⟨rfl,?_⟩
     exact HKK.out.setCells (.inr (by rw [HQ.out];exact Nat.le_refl _)) _ _
open Go.RowKit
set_option maxRecDepth 100000 in
theorem run_build_hasher (w:World):(Instr.build 158 #[(0,.agg (shaIV.words.map W32).toArray)]).run Tryz.prog w=.ok (.agg (hCells shaIV (List.replicate 64 0) 0 0).toArray) w:=by kernel_rfl
theorem Tabs.iv {w:World} (h:Tabs w):w.rangeAt 0 0 (shaIV.words.map W32):=fun j v hv=>by
 have hj:j < 8:=by
  have:=(List.getElem?_eq_some_iff.1 hv).1
  exact this
 rw [Nat.zero_add,h.begin j hj]
 rw [List.getElem?_map,List.getElem?_eq_getElem (by exact hj)] at hv
 simp only [Option.map_some,Option.some.injEq] at hv
 rw [← hv,List.getD_eq_getElem?_getD,List.getElem?_eq_getElem (by exact hj)]
 rfl
set_option maxRecDepth 100000 in
set_option maxHeartbeats 3200000 in
theorem shaSum_any {w:World} {v:Value} {m:List UInt8} (hv:BytesAt w v m) (ht:Tabs w) :
  Calls Tryz.prog 57 #[v] w fun e w'=>e=.returned (.agg ((shaL m).map B).toArray)∧Keeps [] w w':=by
 obtain ⟨D,hD⟩:∃ D,D=shaL m:=⟨_,rfl⟩
 have hDl:D.length=32:=by rw [hD];exact shaL_length m
 have HD:=Lib.hid hD
 have HSHL:=Lib.hid hDl
 have HSD:=Lib.hid (show (Tryz.prog.info? 88).map (·.size)=some (D.map B).length by rw [List.length_map,hDl];exact dg_size)
 rw [← hD]
 clear hD hDl
 obtain ⟨q,hq⟩:∃ q,q=w.heap.size:=⟨_,rfl⟩
 obtain ⟨a,c,rfl,hc1,hc2⟩:=hv.form
 obtain ⟨IV,hIV⟩:∃ IV,IV=shaIV.words.map W32:=⟨_,rfl⟩
 obtain ⟨C,hC⟩:∃ C,C=hCells shaIV (List.replicate 64 0) 0 0:=⟨_,rfl⟩
 have hCl:C.length=74:=by rw [hC];simp [hCells,S8.words]
 have hbld:∀ w,(Instr.build 158 #[(0,.agg IV.toArray)]).run Tryz.prog w=.ok (.agg C.toArray) w:=fun w=>by rw [hIV,hC];exact run_build_hasher w
 obtain ⟨Z,hZ,hZi⟩:∃ Z:List Value,Z.length=74∧(Tryz.prog.info? 158).map (fun i=>(i.zero,i.size,i.bytes))=some (some (.agg Z.toArray),74,112):=⟨_,rfl,info_hasher⟩
 obtain ⟨X,hX,hXi⟩:∃ X:Array Value,X=Array.replicate 32 (.int .u8 0)∧(Tryz.prog.info? 88).map (fun i=>(i.zero,i.size,i.bytes))=some (some (.agg X),32,32):=⟨_,rfl,info_digest⟩
 obtain ⟨w1,hw1⟩:∃ x,x=w.alloc (.cells X 88 (0,0)):=⟨_,rfl⟩
 obtain ⟨q1,hq1⟩:∃ x,x=w1.heap.size:=⟨_,rfl⟩
 obtain ⟨w2,hw2⟩:∃ x,x=w1.alloc (.cells Z.toArray 158 (0,0)):=⟨_,rfl⟩
 have k1:Keeps [] w w1:=by rw [hw1];exact (Keeps.refl _ _).alloc _
 have k2:Keeps [] w w2:=by rw [hw2];exact k1.alloc _
 have hrow1:w1.rangeAt 0 0 IV:=by rw [hIV];exact (ht.keeps k1 (by simp) (by simp)).iv
 have hnew:w2.heap[q1]?=some (.cells Z.toArray 158 (0,0)):=by rw [hw2];exact heap_new_at hq1
 have hst:(Instr.storeAt 158 (.pointer (some ⟨q1,0,none⟩)) (.agg C.toArray)).run Tryz.prog w2=.ok () (w2.setCells q1 0 C):=by
  have:=run_storeAt_mid (P:=Tryz.prog) w2 q1 0 158 C.toArray (there_all hnew 0 _ (by simp [hZ,hCl])) (by rw [size_h74];simp [hCl]) (by rw [hC];exact hCells_one _ _ _ _)
  simpa using this
 have hI3:HIn (w2.setCells q1 0 C) q1 shaIV (List.replicate 64 0) 0 0:=⟨by rw [← hC];exact store_all hnew (by rw [hZ,hCl]),by simp⟩
 have hq1w:w.heap.size < q1:=by rw [hq1,hw1];simp
 have k3:Keeps [] w (w2.setCells q1 0 C):=k2.setCells (.inr (by omega)) _ _
 have hres:(w2.setCells q1 0 C).heap[q]?=some (.cells X 88 (0,0)):=by
  have e1:w1.heap[q]?=some (.cells X 88 (0,0)):=by rw [hw1];exact heap_new_at hq
  have e2:Keeps [q1] w1 (w2.setCells q1 0 C):=by rw [hw2];exact ((Keeps.refl _ _).alloc _).setCells (.inl (by simp)) _ _
  exact (e2.block q (lt_of_heap e1) (by simp;omega)).trans e1
 obtain ⟨w3,hw3⟩:∃ x,x=w2.setCells q1 0 C:=⟨_,rfl⟩
 rw [← hw3] at hst hI3 k3 hres
 have hH:HashAt w3 q1 []:=⟨_,hI3,rfl⟩
 have ht3:Tabs w3:=ht.keeps k3 (by simp) (by simp)
 have hgl:=ht.lt
 have hblk:∀ k,(Value.slice a m.length c).elemBlock=some k→k≠q1:=fun k hk=>by
  rcases hv with ⟨rfl,_,_,e,_⟩ | ⟨g,o,cap,e,_,_,hg,_⟩
  ·simp [Value.elemBlock] at hk
  ·rw [e] at hk
   have:=elem_block_some hk
   omega
 have hwr:=write_any hH (hv.keeps k3 (fun _ _=>by simp)) hblk ht3 (by omega) (by omega)
 rw [List.nil_append] at hwr
 have HWR:=Lib.hid hwr
 have HROW1:=Lib.hid hrow1
 have HIVS:=Lib.hid (show (Tryz.prog.info? 154).map (·.size)=some IV.length by rw [hIV];kernel_rfl)
 have HBLD:=Lib.hid hbld
 have HST:=Lib.hid hst
 have HW1:=Lib.hid hw1
 have HW2:=Lib.hid hw2
 have HQ:=Lib.hid hq
 have HQ1:=Lib.hid hq1
 have HK3:=Lib.hid k3
 have HRES:=Lib.hid hres
 have HZI:=Lib.hid hZi
 have HXI:=Lib.hid hXi
 have HX:=Lib.hid hX
 have HT3:=Lib.hid ht3
 have HGL:=Lib.hid hgl
 clear hv hw1 k1 hrow1 hw2 hq hq1 k2 hnew hst hI3 k3 hres hZi hXi hX hZ ht hC hCl hw3 hH ht3 hgl hblk hwr hIV hbld
 go_enter Tryz.func57,Tryz.ntmps57
 go_upto_region 1 with (first | (refine wl_alloc rfl 88 rfl ?_;refine ⟨_,_,run_alloc _ HXI.out,?_⟩;try simp only [zA,zB,zC,zD,zE,zF,zG,zH]))
 try simp only [Value.cells]
 rw [← HW1.out,← HQ.out]
 go_upto_region 2 with (first | (refine wpList_load_mid rfl 154 (.global 0) rfl 0 0 (by rfl) IV _ HROW1.out Tryz.underlying154 rfl HIVS.out ?_;try simp only [zA,zB,zC,zD,zE,zF,zG,zH]) | (refine wl_build rfl 158 #[(0,.tmp 4)] #[(0,.agg IV.toArray)] rfl (by simp [Act.eval]) ?_;refine ⟨_,_,HBLD.out _,?_⟩;try simp only [zA,zB,zC,zD,zE,zF,zG,zH]) | (refine wl_alloc rfl 158 rfl ?_;refine ⟨_,_,run_alloc _ HZI.out,?_⟩;(try simp only [Value.cells]);rw [← HW2.out,← HQ1.out];try simp only [zA,zB,zC,zD,zE,zF,zG,zH]) | (refine wl_store rfl 158 (.tmp 3) (.tmp 5) rfl ?_;refine ⟨_,HST.out,?_⟩;try simp only [zA,zB,zC,zD,zE,zF,zG,zH]))
 go_upto_region 3 with (first | (go_at_call 82;refine HWR.out.mono ?_;rintro e w4 ⟨rfl,hH4,hk4⟩))
 have ht4:Tabs w4:=HT3.out.keeps hk4 (by have:=HGL.out;simp;omega) (by have:=HGL.out;simp;omega)
 have hk04:Keeps [] w w4:=HK3.out.trans (G:=[q1]) hk4 (fun j hj=>.inr (by simp at hj;subst hj;omega))
 have hqq:q < q1:=by rw [HQ.out];exact hq1w
 have hres4:=(hk4.block q (lt_of_heap HRES.out) (by simp;omega)).trans HRES.out
 have hend:=end_any hH4 ht4
 rw [← HD.out] at hend
 have HEND:=Lib.hid hend
 have HRES4:=Lib.hid hres4
 have HK04:=Lib.hid hk04
 clear hH4 hk4 ht4 hk04 hres4 hend
 go_wp2_with (first | (go_at_call 83;refine HEND.out.mono ?_;rintro e w5 ⟨rfl,hk5⟩) | (refine wl_store rfl 88 (.tmp 2) (.tmp 8) rfl ?_;refine ⟨_,dg_run_store (by rw [← HX.out];exact (hk5.block q (lt_of_heap HRES4.out) (by simp)).trans HRES4.out) HSHL.out,?_⟩;try simp only [zA,zB,zC,zD,zE,zF,zG,zH]))
 have hres5:w5.heap[q]?=some (.cells (Array.replicate 32 (Value.int .u8 0)) 88 (0,0)):=by
  rw [← HX.out]
  exact (hk5.block q (lt_of_heap HRES4.out) (by simp)).trans HRES4.out
 refine bodyPost_ret (results_row (cs:=D.map B) rfl rfl (rangeAt_all (dg_store hres5 HSHL.out)) Tryz.underlying88 rfl HSD.out) rfl ⟨rfl,?_⟩
 exact (HK04.out.trans (G:=[]) hk5 (by simp)).setCells (.inr (by rw [HQ.out];exact Nat.le_refl _)) _ _
open Go.RowKit
set_option maxRecDepth 100000 in
theorem within_any {w:World} (n low high:Int) :
  Calls Tryz.prog 56 #[.int .i64 n,.int .i64 low,.int .i64 high] w fun e w'=>e=.returned (.int .i64 (max low (min n high)))∧w=w':=by
 go_enter Tryz.func56,Tryz.ntmps56
 go_wp2_with fail
 go_ret
 exact ⟨rfl,rfl⟩
open Go.RowKit
def branchL (k:Nat) (l r:List UInt8):List UInt8:=1 :: (l.take k++r.take k)
set_option maxRecDepth 100000 in
set_option maxHeartbeats 1600000 in
theorem branchText_any {w:World} {l r:List UInt8} (hl:l.length=32) (hr:r.length=32) (n:Int) (k:Nat) (hk:(k:Int)=max 0 (min n 32)) :
  Calls Tryz.prog 78 #[.int .i64 n,.agg (l.map B).toArray,.agg (r.map B).toArray] w fun e w'=>∃ rv,e=.returned rv∧BytesAt w' rv (branchL k l r)∧Keeps [] w w':=by
 have hk32:k≤32:=by omega
 obtain ⟨q,hq⟩:∃ q,q=w.heap.size:=⟨_,rfl⟩
 obtain ⟨w1,hw1⟩:∃ x,x=(w.alloc (.cells (l.map B).toArray 88 (0,0))).alloc (.cells (r.map B).toArray 88 (0,0)):=⟨_,rfl⟩
 have k1:Keeps [] w w1:=by rw [hw1];exact ((Keeps.refl _ _).alloc _).alloc _
 have b0:Blk w1 q 88 l:=by rw [hw1];exact (heap_old_at (by simp;omega)).trans (heap_new_at hq)
 have b1:Blk w1 (q+1) 88 r:=by rw [hw1];exact heap_new_at (by simp;omega)
 obtain ⟨m,hm⟩:∃ m,m=1+2 * k:=⟨_,rfl⟩
 have em:1+2 * (k:Int)=(m:Int):=by omega
 have hmk:=make_room w1 m (by omega)
 obtain ⟨w2,hw2⟩:∃ x,x=w1.alloc (.cells ((List.replicate m (0:UInt8)).map B).toArray 5 (0,0)):=⟨_,rfl⟩
 rw [← hw2] at hmk
 have k12:Keeps [] w1 w2:=by rw [hw2];exact (Keeps.refl _ _).alloc _
 have hq1:q≤w1.heap.size:=by rw [hq];exact k1.size
 obtain ⟨w3,hw3⟩:∃ x,x=w2.alloc (.cells #[.int .u8 1] 5 (0,0)):=⟨_,rfl⟩
 have k23:Keeps [] w2 w3:=by rw [hw3];exact (Keeps.refl _ _).alloc _
 have h2:w2.heap[w1.heap.size]?=some (.cells ((List.replicate m (0:UInt8)).map B).toArray 5 (0,0)):=by rw [hw2];exact heap_new_at rfl
 have ho3:w3.ownsRow w1.heap.size 5 1 (.slice (some ⟨w1.heap.size,0,none⟩) 0 m) 0 []:=owns_room ((k23.block _ (lt_of_heap h2) (by simp)).trans h2) (by omega) (Nat.le_refl _)
 have hx3:BytesAt w3 (.slice (some ⟨w2.heap.size,0,none⟩) 1 1) [1]:=.inr ⟨_,0,1,rfl,by simp,by simp [maxLen],by rw [hw3];simp,rangeAt_all (t:=5) (fr:=(0,0)) (by rw [hw3];exact heap_new_at rfl)⟩
 obtain ⟨v4,w4,hr4,ho4,hg4⟩:=run_append_bytes ho3 hx3 (by simp) (Nat.le_trans k12.size k23.size) 36
 have hk14:Keeps [] w1 w4:=(k12.trans (G:=[]) k23 (by simp)).grown hg4 (fun k hk=>.inr (World.ownsRow.lt ho3 k hk).1)
 have HAP:=Lib.hid (run_builtin_append hr4)
 have HMK:=Lib.hid hmk
 have hbs:(Instr.buildSlice 36 1 #[(0,.int .u8 1)]).run Tryz.prog w2=.ok (.slice (some ⟨w2.heap.size,0,none⟩) 1 1) w3:=by
  obtain ⟨i,hi,h1,h2,h3⟩:=info_parts info_u8
  rw [hw3]
  refine run_buildSlice w2 _ _ _ _ _ i (.int .u8 0) Tryz.underlying36 hi h1 (by rw [h2];omega) (by rw [h2];omega) ?_
  rw [h2]
  kernel_rfl
 have HBS:=Lib.hid hbs
 have HW1:=Lib.hid hw1
 have HQ:=Lib.hid hq
 have HK:=Lib.hid hk
 have HO4:=Lib.hid ho4
 have HB0:=Lib.hid (b0.keeps hk14 (by simp))
 have HB1:=Lib.hid b1
 have HK14:=Lib.hid hk14
 have HK01:=Lib.hid k1
 have HLE:=Lib.hid hk14.size
 have HK4:=Lib.hid (k1.trans (G:=[]) hk14 (by simp))
 have HQ1:=Lib.hid hq1
 have HSL:=Lib.hid (fun wx g=>run_dig_to wx g k hk32)
 clear hq hw1 k1 b0 b1 hm hmk hw2 k12 hq1 hw3 k23 h2 ho3 hx3 hr4 ho4 hg4 hk14 hbs hk
 go_enter Tryz.func78,Tryz.ntmps78
 go_upto_region 1 with fail
 rw [← HW1.out,← HQ.out]
 go_upto_region 2 with (first | (go_at_call 56;refine (within_any _ _ _).mono ?_;rintro e w' ⟨rfl,rfl⟩;rw [← HK.out]))
 go_upto_region 3 with (first | (refine wl_makeSlice rfl 36 (.const (.int .i64 0)) (.tmp 13) rfl ?_;refine ⟨_,_,HMK.out,?_⟩;try simp only [zA,zB,zC,zD,zE,zF,zG,zH]) | (refine wl_buildSlice rfl 36 1 #[(0,.const (.int .u8 1))] #[(0,.int .u8 1)] rfl (by simp [Act.eval]) ?_;refine ⟨_,_,HBS.out,?_⟩;try simp only [zA,zB,zC,zD,zE,zF,zG,zH]) | (refine wl_builtin rfl .append #[.tmp 14,.tmp 15] #[36,36] rfl ?_;simp only [List.map_toArray,List.map_cons,List.map_nil];refine ⟨_,_,HAP.out,?_⟩;try simp only [zA,zB,zC,zD,zE,zF,zG,zH]))
 have hlt:(l.take k).length=k:=by rw [List.length_take];omega
 have hrt:(r.take k).length=k:=by rw [List.length_take];omega
 have hoD:w4.drew.ownsRow w1.heap.size 5 1 v4 (0+([1]:List UInt8).length) ([]++([1]:List UInt8).map B):=ownsRow_keep HO4.out (fun _ _=>rfl)
 have hxl:BytesAt w4.drew (.slice (some ⟨q,0,none⟩) k 32) (l.take k):=by
  have:=Blk.part (w:=w4.drew) (g:=q) (t:=88) (l:=l) HB0.out 0 k 32 (by omega) hk32 (by simp [maxLen])
  simpa using this
 have hbase:w1.heap.size≤w4.drew.heap.size:=HLE.out
 refine wp_region_held_drew (S:=(fun _=>True)) (by kernel_rfl) ?_ (fun hHeld=>?_)
 ·trivial
 refine tk 0 ?_
 refine tk 1 ?_
 refine' wpAnyH_take (i:=2) (v:=_) rfl (by kernel_rfl) (by kernel_rfl) (by kernel_rfl) (fun _ _ _ h=>h) (Or.inl ⟨by rfl,?_⟩) (by assumption) ?_
 rotate_left 1
 ·intro w0 hSw
  go_simp
  rw [HSL.out w0]
  rfl
 try simp only [zA,zB,zC,zD,zE,zF,zG,zH]
 refine tk 4 ?_
 refine' wpAnyH_take (i:=5) (v:=_) rfl (by kernel_rfl) (by kernel_rfl) (by kernel_rfl) (fun _ _ _ h=>h) (Or.inl ⟨by rfl,?_⟩) (by assumption) ?_
 rotate_left 1
 ·intro w0 hSw
  go_simp
  rw [HSL.out w0]
  rfl
 try simp only [zA,zB,zC,zD,zE,zF,zG,zH]
 refine ac 3 fun K hK=>?_
 refine step_append_bytes rfl (.tmp 17) (.tmp 19) rfl w1.heap.size v4 _ _ (by rfl) hoD _ (l.take k) (by rfl) hxl (by simp;omega) hbase ?_
 intro v5 w5 ho5 hg5
 have hk45:Keeps [] w1 w5:=HK14.out.drew.grown hg5 (fun k hk=>.inr (World.ownsRow.lt hoD k hk).1)
 have hxr:BytesAt w5 (.slice (some ⟨q+1,0,none⟩) k 32) (r.take k):=by
  have hB:Blk w5 (q+1) 88 r:=HB1.out.keeps hk45 (by simp)
  have:=Blk.part (w:=w5) (g:=q+1) (t:=88) (l:=r) hB 0 k 32 (by omega) hk32 (by simp [maxLen])
  simpa using this
 refine hK.out _ _ ?_ (fun hHeld=>?_)
 ·trivial
 clear hK K
 try simp only [zA,zB,zC,zD,zE,zF,zG,zH]
 refine ac 6 fun K hK=>?_
 refine step_append_bytes rfl (.tmp 20) (.tmp 22) rfl w1.heap.size v5 _ _ (by rfl) ho5 _ (r.take k) (by rfl) hxr (by simp;omega) hk45.size ?_
 intro v6 w6 ho6 hg6
 have hk46:Keeps [] w1 w6:=hk45.grown hg6 (fun k hk=>.inr (World.ownsRow.lt ho5 k hk).1)
 refine hK.out _ _ ?_ (fun hHeld=>?_)
 ·trivial
 clear hK K
 try simp only [zA,zB,zC,zD,zE,zF,zG,zH]
 refine tk 7 ?_
 refine wpAnyH_done (by kernel_rfl) ?_ _
 clear hHeld
 go_wp2_with fail
 go_ret
 have hO:OwnB w6 v6 (branchL k l r):=by
  have h:=ownsRow_base ho6
  have e1:0+([1]:List UInt8).length+(l.take k).length+(r.take k).length=(branchL k l r).length:=by simp [branchL];omega
  have e2:[]++([1]:List UInt8).map B++(l.take k).map B++(r.take k).map B=(branchL k l r).map B:=by simp [branchL]
  rw [e1,e2] at h
  exact h
 exact ⟨v6,rfl,ownB_bytes hO,HK01.out.trans (G:=[]) hk46 (by simp)⟩
open Go.RowKit
def branchD (k:Nat) (l r:List UInt8):List UInt8:=cutL (shaL (branchL k l r)) k
set_option maxRecDepth 100000 in
set_option maxHeartbeats 1600000 in
theorem branch_any {w:World} {l r:List UInt8} (hl:l.length=32) (hr:r.length=32) (n:Int) (n0:-9223372036854775808≤n) (n1:n≤9223372036854775807) (k:Nat) (hk:(k:Int)=max 0 (min n 32)) (ht:Tabs w) :
  Calls Tryz.prog 51 #[.int .i64 n,.agg (l.map B).toArray,.agg (r.map B).toArray] w fun e w'=>e=.returned (.agg ((branchD k l r).map B).toArray)∧Keeps [] w w':=by
 obtain ⟨D,hD⟩:∃ D,D=branchD k l r:=⟨_,rfl⟩
 have hDl:D.length=32:=by rw [hD];exact cutL_length (shaL_length _) (by omega)
 rw [← hD]
 obtain ⟨q,hq⟩:∃ q,q=w.heap.size:=⟨_,rfl⟩
 obtain ⟨X,hX,hXi⟩:∃ X:Array Value,X=Array.replicate 32 (.int .u8 0)∧(Tryz.prog.info? 88).map (fun i=>(i.zero,i.size,i.bytes))=some (some (.agg X),32,32):=⟨_,rfl,info_digest⟩
 obtain ⟨w1,hw1⟩:∃ x,x=((w.alloc (.cells (l.map B).toArray 88 (0,0))).alloc (.cells (r.map B).toArray 88 (0,0))).alloc (.cells X 88 (0,0)):=⟨_,rfl⟩
 have k1:Keeps [] w w1:=by rw [hw1];exact (((Keeps.refl _ _).alloc _).alloc _).alloc _
 have b0:Blk w1 q 88 l:=by rw [hw1];exact (heap_old_at (by simp;omega)).trans ((heap_old_at (by simp;omega)).trans (heap_new_at hq))
 have b1:Blk w1 (q+1) 88 r:=by rw [hw1];exact (heap_old_at (by simp;omega)).trans (heap_new_at (by simp;omega))
 have b2:w1.heap[w.heap.size+1+1]?=some (.cells (Array.replicate 32 (Value.int .u8 0)) 88 (0,0)):=by rw [hw1,← hX];exact heap_new_at (by simp)
 have HTX:=Lib.hid (branchText_any (w:=w1) hl hr n k hk)
 have HT1:=Lib.hid (ht.keeps k1 (by simp) (by simp))
 have HCUT:=Lib.hid (fun (wx:World)=>cut_any (w:=wx) (shaL_length (branchL k l r)) n n0 n1 k (by omega))
 have HSL:=Lib.hid (show (Tryz.prog.info? 88).map (·.size)=some (l.map B).length by rw [List.length_map,hl];exact dg_size)
 have HSR:=Lib.hid (show (Tryz.prog.info? 88).map (·.size)=some (r.map B).length by rw [List.length_map,hr];exact dg_size)
 have HSD:=Lib.hid (show (Tryz.prog.info? 88).map (·.size)=some (D.map B).length by rw [List.length_map,hDl];exact dg_size)
 have HD:=Lib.hid (show D=cutL (shaL (branchL k l r)) k from hD)
 have HDL:=Lib.hid hDl
 have HW1:=Lib.hid hw1
 have HQ:=Lib.hid hq
 have HXI:=Lib.hid hXi
 have HB0:=Lib.hid b0
 have HB1:=Lib.hid b1
 have HB2:=Lib.hid b2
 have HK1:=Lib.hid k1
 clear hD hDl hq hX hXi hw1 k1 b0 b1 b2 hl hr hk ht
 go_enter Tryz.func51,Tryz.ntmps51
 go_upto_region 1 with (first | (refine wl_alloc rfl 88 rfl ?_;refine ⟨_,_,run_alloc _ HXI.out,?_⟩;try simp only [zA,zB,zC,zD,zE,zF,zG,zH]))
 try simp only [Value.cells]
 rw [← HW1.out,← HQ.out]
 go_wp2_with (first
  | (refine wpList_load_mid rfl 88 (.tmp 4) rfl q 0 (by rfl) (l.map B) _ (rangeAt_all HB0.out) Tryz.underlying88 rfl HSL.out ?_;try simp only [zA,zB,zC,zD,zE,zF,zG,zH])
  | (refine wpList_load_mid rfl 88 (.tmp 5) rfl (q+1) 0 (by rfl) (r.map B) _ (rangeAt_all HB1.out) Tryz.underlying88 rfl HSR.out ?_;try simp only [zA,zB,zC,zD,zE,zF,zG,zH])
  | (go_at_call 78;refine HTX.out.mono ?_;rintro e w2 ⟨rv,rfl,hrv,hk2⟩)
  | (go_at_call 57;refine (shaSum_any hrv (HT1.out.keeps hk2 (by simp) (by simp))).mono ?_;rintro e w3 ⟨rfl,hk3⟩)
  | (go_at_call 55;refine (HCUT.out w3).mono ?_;rintro e w4 ⟨rfl,hk4⟩;rw [← HD.out])
  | (refine wl_store rfl 88 (.tmp 6) (.tmp 13) rfl ?_;refine ⟨_,dg_run_store ((((hk2.trans (G:=[]) hk3 (by simp)).trans (G:=[]) hk4 (by simp)).block _ (lt_of_heap HB2.out) (by simp)).trans HB2.out) HDL.out,?_⟩;try simp only [zA,zB,zC,zD,zE,zF,zG,zH]))
 have hb4:=(((hk2.trans (G:=[]) hk3 (by simp)).trans (G:=[]) hk4 (by simp)).block _ (lt_of_heap HB2.out) (by simp)).trans HB2.out
 refine bodyPost_ret (results_row (cs:=D.map B) rfl rfl (rangeAt_all (dg_store hb4 HDL.out)) Tryz.underlying88 rfl HSD.out) rfl ⟨rfl,?_⟩
 exact (HK1.out.trans (G:=[]) ((hk2.trans (G:=[]) hk3 (by simp)).trans (G:=[]) hk4 (by simp)) (by simp)).setCells (.inr (by omega)) _ _
end Go.Proofs.YtakaocenbempmaaGreatDoor
