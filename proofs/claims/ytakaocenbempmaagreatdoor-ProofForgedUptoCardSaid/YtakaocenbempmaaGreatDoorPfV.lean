/-
  Lemmas of a claim, bundle V: XNdJ XNdK XPrG XR9B.
-/
import Derived.Test.YtakaocenbempmaaGreatDoorPfU
import Derived.Test.YtakaocenbempmaaGreatDoorPfI
set_option linter.unusedVariables false
set_option linter.unusedSimpArgs false
namespace Go.Proofs.YtakaocenbempmaaGreatDoor
open Go.RowKit
def childC (page count:Int) (sum:List UInt8):List Value:=.int .i64 page :: .int .i64 count :: sum.map B
def branchC (lp lc:Int) (ls:List UInt8) (rp rc:Int) (rs:List UInt8):List Value:=childC lp lc ls++childC rp rc rs
theorem childC_length {s:List UInt8} (h:s.length=32) (p c:Int):(childC p c s).length=34:=by simp [childC,h]
theorem branchC_length {ls rs:List UInt8} (h1:ls.length=32) (h2:rs.length=32) (lp lc rp rc:Int):(branchC lp lc ls rp rc rs).length=68:=by simp [branchC,childC_length h1,childC_length h2]
theorem childC_ones {p c:Int} {s:List UInt8}:∀ v∈childC p c s,v.oneCell'=true:=by
 intro v hv
 simp only [childC,List.mem_cons] at hv
 rcases hv with rfl | rfl | hv
 ·rfl
 ·rfl
 ·exact B_one _ v hv
theorem branchC_ones {lp lc rp rc:Int} {ls rs:List UInt8}:∀ v∈branchC lp lc ls rp rc rs,v.oneCell'=true:=by
 intro v hv
 rcases List.mem_append.1 hv with h | h
 ·exact childC_ones v h
 ·exact childC_ones v h
theorem size_nchild:(Tryz.prog.info? 192).map (·.size)=some 34:=by kernel_rfl
theorem size_nbranch:(Tryz.prog.info? 194).map (·.size)=some 68:=by kernel_rfl
set_option maxRecDepth 100000 in
theorem info_nchild:(Tryz.prog.info? 192).map (fun i=>(i.zero,i.size,i.bytes))=some (some (.agg (childC 0 0 z32).toArray),34,48):=by kernel_rfl
set_option maxRecDepth 100000 in
theorem info_nbranch:(Tryz.prog.info? 194).map (fun i=>(i.zero,i.size,i.bytes))=some (some (.agg (branchC 0 0 z32 0 0 z32).toArray),68,96):=by kernel_rfl
set_option maxRecDepth 100000 in
theorem run_build_child (p c:Int) (w:World):(Instr.build 192 #[(0,.int .i64 p),(1,.int .i64 c)]).run Tryz.prog w=.ok (.agg (childC p c z32).toArray) w:=by kernel_rfl
set_option maxRecDepth 100000 in
theorem run_build_branch (p c p2 c2:Int) (w:World):(Instr.build 194 #[(0,.agg (childC p c z32).toArray),(1,.agg (childC p2 c2 z32).toArray)]).run Tryz.prog w=.ok (.agg (branchC p c z32 p2 c2 z32).toArray) w:=by kernel_rfl
theorem range_drop {w:World} {g o:Nat} {l:List UInt8} (h:w.rangeAt g o (l.map B)) (k:Nat):w.rangeAt g (o+k) ((l.drop k).map B):=fun j v hv=>by
 rw [List.map_drop,List.getElem?_drop] at hv
 have:=h (k+j) v hv
 rwa [Nat.add_assoc]
theorem le4_drop (l:List UInt8) (k:Nat):le4 (l.drop k) 0=le4 l k:=by
 unfold le4
 simp only [List.getD_eq_getElem?_getD,List.getElem?_drop,Nat.zero_add,Nat.add_zero]
theorem branch_over1 (a b c d:Int) (x:List UInt8):(branchC a b z32 c d z32).take 2++x.map B++(branchC a b z32 c d z32).drop (2+32)=branchC a b x c d z32:=by
 have hz:(z32.map B).length=32:=by simp [z32]
 have e:branchC a b z32 c d z32=[Value.int .i64 a,.int .i64 b]++(z32.map B++childC c d z32):=by simp [branchC,childC]
 have e2:branchC a b x c d z32=[Value.int .i64 a,.int .i64 b]++(x.map B++childC c d z32):=by simp [branchC,childC]
 have h2:[Value.int .i64 a,.int .i64 b].length=2:=rfl
 rw [e,e2,List.take_left' h2,← List.drop_drop,List.drop_left' h2,List.drop_left' hz,List.append_assoc]
theorem branch_over2 (a b c d:Int) {x:List UInt8} (hx:x.length=32) (y:List UInt8):(branchC a b x c d z32).take 36++y.map B++(branchC a b x c d z32).drop (36+32)=branchC a b x c d y:=by
 have hz:(z32.map B).length=32:=by simp [z32]
 have e:∀ u:List UInt8,branchC a b x c d u=(childC a b x++[Value.int .i64 c,.int .i64 d])++u.map B:=fun u=>by simp [branchC,childC]
 have e1:(childC a b x++[Value.int .i64 c,.int .i64 d]).length=36:=by rw [List.length_append,childC_length hx];rfl
 rw [e z32,e y,List.take_left' e1,← List.drop_drop,List.drop_left' e1,List.drop_eq_nil_of_le (by rw [hz];exact Nat.le_refl _),List.append_nil]
set_option maxRecDepth 100000 in
set_option maxHeartbeats 6400000 in
theorem read_branch {w:World} {a:Option Addr} {c:Nat} {l:List UInt8} (hv:BytesAt w (.slice a l.length c) l) (h80:l.length=80) :
  Calls Tryz.prog 99 #[.int .i64 2,.slice a l.length c] w fun e w'=>e=.returned (.iface 194 (.agg (branchC (le4 l 0) (le4 l 8) ((l.drop 16).take 32) (le4 l 4) (le4 l 12) ((l.drop 48).take 32)).toArray))∧Keeps [] w w':=by
 obtain ⟨a0,c0,hf,hc1,hc2⟩:=hv.form
 injection hf with hfa _ hfc
 subst hfa hfc
 obtain ⟨g,o,rfl,hg,hr⟩:=hv.at (by omega)
 have hfour:∀ k,k+4≤80→∀ wx,Keeps [] w wx→Calls Tryz.prog 114 #[.slice (some ⟨g,o+k,none⟩) (80 - k) (c - k)] wx fun e w'=>e=.returned (.int .i64 (le4 l k))∧wx.drew=w':=by
  intro k hk wx hkx
  have hl:(l.drop k).length=80 - k:=by rw [List.length_drop,h80]
  have:=four_any (w:=wx) (a:=some ⟨g,o+k,none⟩) (c:=c - k) (l:=l.drop k) (.inr ⟨g,o+k,c - k,rfl,by rw [hl];omega,by omega,Nat.lt_of_lt_of_le hg hkx.size,rangeAt_of_heap (range_drop hr k) (hkx.block g hg (by simp))⟩) (by rw [hl];omega)
  rw [hl,le4_drop] at this
  exact this
 have hf0:=hfour 0 (by omega)
 have hf4:=hfour 4 (by omega)
 have hf8:=hfour 8 (by omega)
 have hf12:=hfour 12 (by omega)
 simp only [Nat.add_zero,Nat.sub_zero] at hf0
 simp only [show 80 - 4=76 from rfl] at hf4
 simp only [show 80 - 8=72 from rfl] at hf8
 simp only [show 80 - 12=68 from rfl] at hf12
 have HFOUR0:=Lib.hid hf0
 have HFOUR4:=Lib.hid hf4
 have HFOUR8:=Lib.hid hf8
 have HFOUR12:=Lib.hid hf12
 have hs:∀ wx (k:Nat),k < 80→(Instr.sliceAt 36 (.slice (some ⟨g,o,none⟩) 80 c) (some (.int .i64 k)) none none).run Tryz.prog wx=.ok (.slice (some ⟨g,o+k,none⟩) (80 - k) (c - k)) wx:=fun wx k hk=>by
  rw [sl_run_slice_from wx _ 80 c k (by omega) (by omega)]
  simp [sliced,Addr.add_mid]
  intro e
  omega
 have HS4:=Lib.hid (fun wx=>hs wx 4 (by omega))
 have HS8:=Lib.hid (fun wx=>hs wx 8 (by omega))
 have HS12:=Lib.hid (fun wx=>hs wx 12 (by omega))
 have HS16:=Lib.hid (fun wx=>hs wx 16 (by omega))
 have HS48:=Lib.hid (fun wx=>hs wx 48 (by omega))
 obtain ⟨Z,hZ,hZi⟩:∃ Z:List Value,Z.length=68∧(Tryz.prog.info? 194).map (fun i=>(i.zero,i.size,i.bytes))=some (some (.agg Z.toArray),68,96):=⟨_,branchC_length (by simp [z32]) (by simp [z32]) _ _ _ _,info_nbranch⟩
 obtain ⟨q,hq⟩:∃ q,q=w.heap.size:=⟨_,rfl⟩
 have HQ:=Lib.hid hq
 have HZ:=Lib.hid hZ
 have HZI:=Lib.hid hZi
 have HR:=Lib.hid (And.intro hg hr)
 have HL:=Lib.hid h80
 have HC:=Lib.hid (And.intro hc1 hc2)
 rw [h80]
 have n4:¬ c=4:=by omega
 have n8:¬ c=8:=by omega
 have n12:¬ c=12:=by omega
 have n16:¬ c=16:=by omega
 have n48:¬ c=48:=by omega
 clear hv hr hg hfour hf0 hf4 hf8 hf12 hs hZ hZi hq h80 hc1 hc2
 go_enter Tryz.func99,Tryz.ntmps99
 go_upto_region 6 with fail
 go_cut [6] from 32 to 45 (fun s wx=>s=.pointer (some ⟨q,0,none⟩)∧wx.heap[q]?=some (.cells (branchC (le4 l 0) (le4 l 8) z32 (le4 l 4) (le4 l 12) z32).toArray 194 (0,0))∧Keeps [] w wx)
 case first =>
  refine wp_region_held_drew (S:=(fun w'=>True)) (by kernel_rfl) ?_ (fun hHeld=>?_)
  ·trivial
  have kx0:Keeps [] w w.drew:=(Keeps.refl _ _).drew
  have sx0:w.drew.heap.size=q:=HQ.out.symm
  refine tk 0 ?_
  refine tk 2 ?_
  refine tk 3 ?_
  refine tk 6 ?_
  refine tk 7 ?_
  refine tk 9 ?_
  refine tk 10 ?_
  refine wpAnyH_ready (rs:=[1,14]) (by kernel_rfl) (by simp) ?_
  refine AllReadyH.cons rfl (fun K hK=>?_) (AllReadyH.cons rfl (fun K hK=>?_) AllReadyH.nil)
  ·go_simp
   refine (HFOUR0.out (w.drew) kx0).mono ?_
   rintro e _ ⟨rfl,rfl⟩
   have kx1:Keeps [] w ((w.drew).drew):=kx0.drew
   have sx1:((w.drew).drew).heap.size=q:=sx0
   refine hK.out _ _ ?_ (fun hHeld=>?_)
   ·trivial
   clear hK K
   try simp only [zA,zB,zC,zD,zE,zF,zG,zH]
   refine wpAnyH_ready (rs:=[4,14]) (by kernel_rfl) (by simp) ?_
   refine AllReadyH.cons rfl (fun K hK=>?_) (AllReadyH.cons rfl (fun K hK=>?_) AllReadyH.nil)
   ·go_simp
    refine (HFOUR8.out ((w.drew).drew) kx1).mono ?_
    rintro e _ ⟨rfl,rfl⟩
    have kx2:Keeps [] w (((w.drew).drew).drew):=kx1.drew
    have sx2:(((w.drew).drew).drew).heap.size=q:=sx1
    refine hK.out _ _ ?_ (fun hHeld=>?_)
    ·trivial
    clear hK K
    try simp only [zA,zB,zC,zD,zE,zF,zG,zH]
    refine tkb 5 rfl (yieldsIf_build (by rfl) 192 _ _ rfl (by simp [Act.eval]) (run_build_child (le4 l 0) (le4 l 8))) ?_
    refine wpAnyH_ready (rs:=[8,14]) (by kernel_rfl) (by simp) ?_
    refine AllReadyH.cons rfl (fun K hK=>?_) (AllReadyH.cons rfl (fun K hK=>?_) AllReadyH.nil)
    ·go_simp
     refine (HFOUR4.out (((w.drew).drew).drew) kx2).mono ?_
     rintro e _ ⟨rfl,rfl⟩
     have kx3:Keeps [] w ((((w.drew).drew).drew).drew):=kx2.drew
     have sx3:((((w.drew).drew).drew).drew).heap.size=q:=sx2
     refine hK.out _ _ ?_ (fun hHeld=>?_)
     ·trivial
     clear hK K
     try simp only [zA,zB,zC,zD,zE,zF,zG,zH]
     refine wpAnyH_ready (rs:=[11,14]) (by kernel_rfl) (by simp) ?_
     refine AllReadyH.cons rfl (fun K hK=>?_) (AllReadyH.cons rfl (fun K hK=>?_) AllReadyH.nil)
     ·go_simp
      refine (HFOUR12.out ((((w.drew).drew).drew).drew) kx3).mono ?_
      rintro e _ ⟨rfl,rfl⟩
      have kx4:Keeps [] w (((((w.drew).drew).drew).drew).drew):=kx3.drew
      have sx4:(((((w.drew).drew).drew).drew).drew).heap.size=q:=sx3
      refine hK.out _ _ ?_ (fun hHeld=>?_)
      ·trivial
      clear hK K
      try simp only [zA,zB,zC,zD,zE,zF,zG,zH]
      refine tkb 12 rfl (yieldsIf_build (by rfl) 192 _ _ rfl (by simp [Act.eval]) (run_build_child (le4 l 4) (le4 l 12))) ?_
      refine tkb 13 rfl (yieldsIf_build (by rfl) 194 _ _ rfl (by simp [Act.eval]) (run_build_branch (le4 l 0) (le4 l 8) (le4 l 4) (le4 l 12))) ?_
      refine ac 14 fun K hK=>?_
      (refine st_alloc rfl 194 rfl ?_;refine ⟨_,_,run_alloc _ HZI.out,?_⟩;(try simp only [Value.cells]))
      have kx5:Keeps [] w ((((((w.drew).drew).drew).drew).drew).alloc (.cells Z.toArray 194 (0,0))):=kx4.alloc _
      have bx5:(((((((w.drew).drew).drew).drew).drew).alloc (.cells Z.toArray 194 (0,0))).heap)[q]?=some (.cells Z.toArray 194 (0,0)):=heap_new_at sx4.symm
      rw [sx4]
      refine hK.out _ _ ?_ (fun hHeld=>?_)
      ·trivial
      clear hK K
      try simp only [zA,zB,zC,zD,zE,zF,zG,zH]
      have hst:=run_store_cells (cs:=branchC (le4 l 0) (le4 l 8) z32 (le4 l 4) (le4 l 12) z32) bx5 HZ.out (branchC_length (by simp [z32]) (by simp [z32]) _ _ _ _) size_nbranch branchC_ones
      have HST:=Lib.hid hst
      clear hst
      refine ac 15 fun K hK=>?_
      (refine st_store rfl 194 (.tmp 6) (.tmp 45) rfl ?_;refine ⟨_,HST.out,?_⟩;try simp only [zA,zB,zC,zD,zE,zF,zG,zH])
      refine hK.out _ _ ?_ (fun hHeld=>?_)
      ·trivial
      clear hK K
      try simp only [zA,zB,zC,zD,zE,zF,zG,zH]
      refine wpAnyH_done (by kernel_rfl) ?_ _
      go_wp2_with fail
      go_meet
      case rel=>exact ⟨rfl,store_all bx5 (by rw [HZ.out,branchC_length (by simp [z32]) (by simp [z32])]),kx5.setCells (.inr (by have:=HQ.out;omega)) _ _⟩
     ·(refine st_alloc rfl 194 rfl ?_;refine ⟨_,_,run_alloc _ HZI.out,?_⟩;(try simp only [Value.cells]))
      have kx6:Keeps [] w (((((w.drew).drew).drew).drew).alloc (.cells Z.toArray 194 (0,0))):=kx3.alloc _
      have bx6:((((((w.drew).drew).drew).drew).alloc (.cells Z.toArray 194 (0,0))).heap)[q]?=some (.cells Z.toArray 194 (0,0)):=heap_new_at sx3.symm
      rw [sx3]
      refine hK.out _ _ ?_ (fun hHeld=>?_)
      ·trivial
      clear hK K
      try simp only [zA,zB,zC,zD,zE,zF,zG,zH]
      refine ac 11 fun K hK=>?_
      go_simp
      refine (HFOUR12.out (((((w.drew).drew).drew).drew).alloc (.cells Z.toArray 194 (0,0))) kx6).mono ?_
      rintro e _ ⟨rfl,rfl⟩
      have kx7:Keeps [] w ((((((w.drew).drew).drew).drew).alloc (.cells Z.toArray 194 (0,0))).drew):=kx6.drew
      refine hK.out _ _ ?_ (fun hHeld=>?_)
      ·trivial
      clear hK K
      try simp only [zA,zB,zC,zD,zE,zF,zG,zH]
      have bx7:(((((((w.drew).drew).drew).drew).alloc (.cells Z.toArray 194 (0,0))).drew).heap)[q]?=some (.cells Z.toArray 194 (0,0)):=bx6
      refine tkb 12 rfl (yieldsIf_build (by rfl) 192 _ _ rfl (by simp [Act.eval]) (run_build_child (le4 l 4) (le4 l 12))) ?_
      refine tkb 13 rfl (yieldsIf_build (by rfl) 194 _ _ rfl (by simp [Act.eval]) (run_build_branch (le4 l 0) (le4 l 8) (le4 l 4) (le4 l 12))) ?_
      have hst:=run_store_cells (cs:=branchC (le4 l 0) (le4 l 8) z32 (le4 l 4) (le4 l 12) z32) bx7 HZ.out (branchC_length (by simp [z32]) (by simp [z32]) _ _ _ _) size_nbranch branchC_ones
      have HST:=Lib.hid hst
      clear hst
      refine ac 15 fun K hK=>?_
      (refine st_store rfl 194 (.tmp 6) (.tmp 45) rfl ?_;refine ⟨_,HST.out,?_⟩;try simp only [zA,zB,zC,zD,zE,zF,zG,zH])
      refine hK.out _ _ ?_ (fun hHeld=>?_)
      ·trivial
      clear hK K
      try simp only [zA,zB,zC,zD,zE,zF,zG,zH]
      refine wpAnyH_done (by kernel_rfl) ?_ _
      go_wp2_with fail
      go_meet
      case rel=>exact ⟨rfl,store_all bx7 (by rw [HZ.out,branchC_length (by simp [z32]) (by simp [z32])]),kx7.setCells (.inr (by have:=HQ.out;omega)) _ _⟩
    ·(refine st_alloc rfl 194 rfl ?_;refine ⟨_,_,run_alloc _ HZI.out,?_⟩;(try simp only [Value.cells]))
     have kx8:Keeps [] w ((((w.drew).drew).drew).alloc (.cells Z.toArray 194 (0,0))):=kx2.alloc _
     have bx8:(((((w.drew).drew).drew).alloc (.cells Z.toArray 194 (0,0))).heap)[q]?=some (.cells Z.toArray 194 (0,0)):=heap_new_at sx2.symm
     rw [sx2]
     refine hK.out _ _ ?_ (fun hHeld=>?_)
     ·trivial
     clear hK K
     try simp only [zA,zB,zC,zD,zE,zF,zG,zH]
     refine ac 8 fun K hK=>?_
     go_simp
     refine (HFOUR4.out ((((w.drew).drew).drew).alloc (.cells Z.toArray 194 (0,0))) kx8).mono ?_
     rintro e _ ⟨rfl,rfl⟩
     have kx9:Keeps [] w (((((w.drew).drew).drew).alloc (.cells Z.toArray 194 (0,0))).drew):=kx8.drew
     refine hK.out _ _ ?_ (fun hHeld=>?_)
     ·trivial
     clear hK K
     try simp only [zA,zB,zC,zD,zE,zF,zG,zH]
     have bx9:((((((w.drew).drew).drew).alloc (.cells Z.toArray 194 (0,0))).drew).heap)[q]?=some (.cells Z.toArray 194 (0,0)):=bx8
     refine ac 11 fun K hK=>?_
     go_simp
     refine (HFOUR12.out (((((w.drew).drew).drew).alloc (.cells Z.toArray 194 (0,0))).drew) kx9).mono ?_
     rintro e _ ⟨rfl,rfl⟩
     have kx10:Keeps [] w ((((((w.drew).drew).drew).alloc (.cells Z.toArray 194 (0,0))).drew).drew):=kx9.drew
     refine hK.out _ _ ?_ (fun hHeld=>?_)
     ·trivial
     clear hK K
     try simp only [zA,zB,zC,zD,zE,zF,zG,zH]
     have bx10:(((((((w.drew).drew).drew).alloc (.cells Z.toArray 194 (0,0))).drew).drew).heap)[q]?=some (.cells Z.toArray 194 (0,0)):=bx9
     refine tkb 12 rfl (yieldsIf_build (by rfl) 192 _ _ rfl (by simp [Act.eval]) (run_build_child (le4 l 4) (le4 l 12))) ?_
     refine tkb 13 rfl (yieldsIf_build (by rfl) 194 _ _ rfl (by simp [Act.eval]) (run_build_branch (le4 l 0) (le4 l 8) (le4 l 4) (le4 l 12))) ?_
     have hst:=run_store_cells (cs:=branchC (le4 l 0) (le4 l 8) z32 (le4 l 4) (le4 l 12) z32) bx10 HZ.out (branchC_length (by simp [z32]) (by simp [z32]) _ _ _ _) size_nbranch branchC_ones
     have HST:=Lib.hid hst
     clear hst
     refine ac 15 fun K hK=>?_
     (refine st_store rfl 194 (.tmp 6) (.tmp 45) rfl ?_;refine ⟨_,HST.out,?_⟩;try simp only [zA,zB,zC,zD,zE,zF,zG,zH])
     refine hK.out _ _ ?_ (fun hHeld=>?_)
     ·trivial
     clear hK K
     try simp only [zA,zB,zC,zD,zE,zF,zG,zH]
     refine wpAnyH_done (by kernel_rfl) ?_ _
     go_wp2_with fail
     go_meet
     case rel=>exact ⟨rfl,store_all bx10 (by rw [HZ.out,branchC_length (by simp [z32]) (by simp [z32])]),kx10.setCells (.inr (by have:=HQ.out;omega)) _ _⟩
   ·(refine st_alloc rfl 194 rfl ?_;refine ⟨_,_,run_alloc _ HZI.out,?_⟩;(try simp only [Value.cells]))
    have kx11:Keeps [] w (((w.drew).drew).alloc (.cells Z.toArray 194 (0,0))):=kx1.alloc _
    have bx11:((((w.drew).drew).alloc (.cells Z.toArray 194 (0,0))).heap)[q]?=some (.cells Z.toArray 194 (0,0)):=heap_new_at sx1.symm
    rw [sx1]
    refine hK.out _ _ ?_ (fun hHeld=>?_)
    ·trivial
    clear hK K
    try simp only [zA,zB,zC,zD,zE,zF,zG,zH]
    refine ac 4 fun K hK=>?_
    go_simp
    refine (HFOUR8.out (((w.drew).drew).alloc (.cells Z.toArray 194 (0,0))) kx11).mono ?_
    rintro e _ ⟨rfl,rfl⟩
    have kx12:Keeps [] w ((((w.drew).drew).alloc (.cells Z.toArray 194 (0,0))).drew):=kx11.drew
    refine hK.out _ _ ?_ (fun hHeld=>?_)
    ·trivial
    clear hK K
    try simp only [zA,zB,zC,zD,zE,zF,zG,zH]
    have bx12:(((((w.drew).drew).alloc (.cells Z.toArray 194 (0,0))).drew).heap)[q]?=some (.cells Z.toArray 194 (0,0)):=bx11
    refine tkb 5 rfl (yieldsIf_build (by rfl) 192 _ _ rfl (by simp [Act.eval]) (run_build_child (le4 l 0) (le4 l 8))) ?_
    refine ac 8 fun K hK=>?_
    go_simp
    refine (HFOUR4.out ((((w.drew).drew).alloc (.cells Z.toArray 194 (0,0))).drew) kx12).mono ?_
    rintro e _ ⟨rfl,rfl⟩
    have kx13:Keeps [] w (((((w.drew).drew).alloc (.cells Z.toArray 194 (0,0))).drew).drew):=kx12.drew
    refine hK.out _ _ ?_ (fun hHeld=>?_)
    ·trivial
    clear hK K
    try simp only [zA,zB,zC,zD,zE,zF,zG,zH]
    have bx13:((((((w.drew).drew).alloc (.cells Z.toArray 194 (0,0))).drew).drew).heap)[q]?=some (.cells Z.toArray 194 (0,0)):=bx12
    refine ac 11 fun K hK=>?_
    go_simp
    refine (HFOUR12.out (((((w.drew).drew).alloc (.cells Z.toArray 194 (0,0))).drew).drew) kx13).mono ?_
    rintro e _ ⟨rfl,rfl⟩
    have kx14:Keeps [] w ((((((w.drew).drew).alloc (.cells Z.toArray 194 (0,0))).drew).drew).drew):=kx13.drew
    refine hK.out _ _ ?_ (fun hHeld=>?_)
    ·trivial
    clear hK K
    try simp only [zA,zB,zC,zD,zE,zF,zG,zH]
    have bx14:(((((((w.drew).drew).alloc (.cells Z.toArray 194 (0,0))).drew).drew).drew).heap)[q]?=some (.cells Z.toArray 194 (0,0)):=bx13
    refine tkb 12 rfl (yieldsIf_build (by rfl) 192 _ _ rfl (by simp [Act.eval]) (run_build_child (le4 l 4) (le4 l 12))) ?_
    refine tkb 13 rfl (yieldsIf_build (by rfl) 194 _ _ rfl (by simp [Act.eval]) (run_build_branch (le4 l 0) (le4 l 8) (le4 l 4) (le4 l 12))) ?_
    have hst:=run_store_cells (cs:=branchC (le4 l 0) (le4 l 8) z32 (le4 l 4) (le4 l 12) z32) bx14 HZ.out (branchC_length (by simp [z32]) (by simp [z32]) _ _ _ _) size_nbranch branchC_ones
    have HST:=Lib.hid hst
    clear hst
    refine ac 15 fun K hK=>?_
    (refine st_store rfl 194 (.tmp 6) (.tmp 45) rfl ?_;refine ⟨_,HST.out,?_⟩;try simp only [zA,zB,zC,zD,zE,zF,zG,zH])
    refine hK.out _ _ ?_ (fun hHeld=>?_)
    ·trivial
    clear hK K
    try simp only [zA,zB,zC,zD,zE,zF,zG,zH]
    refine wpAnyH_done (by kernel_rfl) ?_ _
    go_wp2_with fail
    go_meet
    case rel=>exact ⟨rfl,store_all bx14 (by rw [HZ.out,branchC_length (by simp [z32]) (by simp [z32])]),kx14.setCells (.inr (by have:=HQ.out;omega)) _ _⟩
  ·(refine st_alloc rfl 194 rfl ?_;refine ⟨_,_,run_alloc _ HZI.out,?_⟩;(try simp only [Value.cells]))
   have kx15:Keeps [] w ((w.drew).alloc (.cells Z.toArray 194 (0,0))):=kx0.alloc _
   have bx15:(((w.drew).alloc (.cells Z.toArray 194 (0,0))).heap)[q]?=some (.cells Z.toArray 194 (0,0)):=heap_new_at sx0.symm
   rw [sx0]
   refine hK.out _ _ ?_ (fun hHeld=>?_)
   ·trivial
   clear hK K
   try simp only [zA,zB,zC,zD,zE,zF,zG,zH]
   refine ac 1 fun K hK=>?_
   go_simp
   refine (HFOUR0.out ((w.drew).alloc (.cells Z.toArray 194 (0,0))) kx15).mono ?_
   rintro e _ ⟨rfl,rfl⟩
   have kx16:Keeps [] w (((w.drew).alloc (.cells Z.toArray 194 (0,0))).drew):=kx15.drew
   refine hK.out _ _ ?_ (fun hHeld=>?_)
   ·trivial
   clear hK K
   try simp only [zA,zB,zC,zD,zE,zF,zG,zH]
   have bx16:((((w.drew).alloc (.cells Z.toArray 194 (0,0))).drew).heap)[q]?=some (.cells Z.toArray 194 (0,0)):=bx15
   refine ac 4 fun K hK=>?_
   go_simp
   refine (HFOUR8.out (((w.drew).alloc (.cells Z.toArray 194 (0,0))).drew) kx16).mono ?_
   rintro e _ ⟨rfl,rfl⟩
   have kx17:Keeps [] w ((((w.drew).alloc (.cells Z.toArray 194 (0,0))).drew).drew):=kx16.drew
   refine hK.out _ _ ?_ (fun hHeld=>?_)
   ·trivial
   clear hK K
   try simp only [zA,zB,zC,zD,zE,zF,zG,zH]
   have bx17:(((((w.drew).alloc (.cells Z.toArray 194 (0,0))).drew).drew).heap)[q]?=some (.cells Z.toArray 194 (0,0)):=bx16
   refine tkb 5 rfl (yieldsIf_build (by rfl) 192 _ _ rfl (by simp [Act.eval]) (run_build_child (le4 l 0) (le4 l 8))) ?_
   refine ac 8 fun K hK=>?_
   go_simp
   refine (HFOUR4.out ((((w.drew).alloc (.cells Z.toArray 194 (0,0))).drew).drew) kx17).mono ?_
   rintro e _ ⟨rfl,rfl⟩
   have kx18:Keeps [] w (((((w.drew).alloc (.cells Z.toArray 194 (0,0))).drew).drew).drew):=kx17.drew
   refine hK.out _ _ ?_ (fun hHeld=>?_)
   ·trivial
   clear hK K
   try simp only [zA,zB,zC,zD,zE,zF,zG,zH]
   have bx18:((((((w.drew).alloc (.cells Z.toArray 194 (0,0))).drew).drew).drew).heap)[q]?=some (.cells Z.toArray 194 (0,0)):=bx17
   refine ac 11 fun K hK=>?_
   go_simp
   refine (HFOUR12.out (((((w.drew).alloc (.cells Z.toArray 194 (0,0))).drew).drew).drew) kx18).mono ?_
   rintro e _ ⟨rfl,rfl⟩
   have kx19:Keeps [] w ((((((w.drew).alloc (.cells Z.toArray 194 (0,0))).drew).drew).drew).drew):=kx18.drew
   refine hK.out _ _ ?_ (fun hHeld=>?_)
   ·trivial
   clear hK K
   try simp only [zA,zB,zC,zD,zE,zF,zG,zH]
   have bx19:(((((((w.drew).alloc (.cells Z.toArray 194 (0,0))).drew).drew).drew).drew).heap)[q]?=some (.cells Z.toArray 194 (0,0)):=bx18
   refine tkb 12 rfl (yieldsIf_build (by rfl) 192 _ _ rfl (by simp [Act.eval]) (run_build_child (le4 l 4) (le4 l 12))) ?_
   refine tkb 13 rfl (yieldsIf_build (by rfl) 194 _ _ rfl (by simp [Act.eval]) (run_build_branch (le4 l 0) (le4 l 8) (le4 l 4) (le4 l 12))) ?_
   have hst:=run_store_cells (cs:=branchC (le4 l 0) (le4 l 8) z32 (le4 l 4) (le4 l 12) z32) bx19 HZ.out (branchC_length (by simp [z32]) (by simp [z32]) _ _ _ _) size_nbranch branchC_ones
   have HST:=Lib.hid hst
   clear hst
   refine ac 15 fun K hK=>?_
   (refine st_store rfl 194 (.tmp 6) (.tmp 45) rfl ?_;refine ⟨_,HST.out,?_⟩;try simp only [zA,zB,zC,zD,zE,zF,zG,zH])
   refine hK.out _ _ ?_ (fun hHeld=>?_)
   ·trivial
   clear hK K
   try simp only [zA,zB,zC,zD,zE,zF,zG,zH]
   refine wpAnyH_done (by kernel_rfl) ?_ _
   go_wp2_with fail
   go_meet
   case rel=>exact ⟨rfl,store_all bx19 (by rw [HZ.out,branchC_length (by simp [z32]) (by simp [z32])]),kx19.setCells (.inr (by have:=HQ.out;omega)) _ _⟩
 case rest =>
  obtain ⟨rfl,hb,hk⟩:=hcut
  obtain ⟨C0,hC0⟩:∃ C,C=branchC (le4 l 0) (le4 l 8) z32 (le4 l 4) (le4 l 12) z32:=⟨_,rfl⟩
  obtain ⟨C1,hC1⟩:∃ C,C=branchC (le4 l 0) (le4 l 8) ((l.drop 16).take 32) (le4 l 4) (le4 l 12) z32:=⟨_,rfl⟩
  obtain ⟨C2,hC2⟩:∃ C,C=branchC (le4 l 0) (le4 l 8) ((l.drop 16).take 32) (le4 l 4) (le4 l 12) ((l.drop 48).take 32):=⟨_,rfl⟩
  have e16:((l.drop 16).take 32).length=32:=by rw [List.length_take,List.length_drop,HL.out];rfl
  have e48:((l.drop 48).take 32).length=32:=by rw [List.length_take,List.length_drop,HL.out];rfl
  have C0_len:=Lib.hid (show C0.length=68 by rw [hC0];exact branchC_length (by simp [z32]) (by simp [z32]) _ _ _ _)
  have C1_len:=Lib.hid (show C1.length=68 by rw [hC1];exact branchC_length e16 (by simp [z32]) _ _ _ _)
  have C2_len:=Lib.hid (show C2.length=68 by rw [hC2];exact branchC_length e16 e48 _ _ _ _)
  have d1:C0.take 2++((l.drop 16).take 32).map B++C0.drop (2+32)=C1:=by rw [hC0,hC1];exact branch_over1 _ _ _ _ _
  have d2:C1.take 36++((l.drop 48).take 32).map B++C1.drop (36+32)=C2:=by rw [hC1,hC2];exact branch_over2 _ _ _ _ e16 _
  rw [← hC0] at hb
  have HB0:=Lib.hid hb
  have HK0:=Lib.hid hk
  have HC2:=Lib.hid hC2
  clear hb hk hC0 hC1 hC2 e16 e48
  have hcp7:=fun ty=>run_copy_to (W:=wc.drew) (g:=q) (m:=32) (c1:=32) (o:=2) (k:=32) (show wc.drew.heap[q]?=_ from HB0.out) (a:=some ⟨g,o+16,none⟩) (n:=64) (c2:=c - 16) (l:=l.drop 16) (.inr ⟨g,o+16,c - 16,by rw [List.length_drop,HL.out],by rw [List.length_drop,HL.out];have:=HC.out;have:=HL.out;omega,by have:=HC.out;omega,Nat.lt_of_lt_of_le HR.out.1 HK0.out.size,rangeAt_of_heap (range_drop HR.out.2 16) (HK0.out.block g HR.out.1 (by simp))⟩) (by omega) (by rw [List.length_drop,HL.out]) rfl (by rw [C0_len.out];omega) ty
  have hcur7:C0.take 2++((l.drop 16).take 32).map B++C0.drop (2+32)=C1:=d1
  simp only [hcur7] at hcp7
  obtain ⟨w1,hw1⟩:∃ x,x=wc.drew.setRow q C1.toArray:=⟨_,rfl⟩
  rw [← hw1] at hcp7
  have HB7:=Lib.hid (show w1.heap[q]?=some (.cells C1.toArray 194 (0,0)) by rw [hw1];exact setRow_heap wc.drew q _ _ _ _ HB0.out)
  have HK7:=Lib.hid (show Keeps [] w w1 by rw [hw1];exact HK0.out.drew.setRow (.inr (by have:=HQ.out;omega)) _)
  have HCP7:=Lib.hid hcp7
  clear hcp7 hcur7 hw1
  go_upto_region 7 with fail
  refine wp_region_held_drew (S:=(fun w'=>True)) (by kernel_rfl) ?_ (fun hHeld=>?_)
  ·trivial
  refine tk 0 ?_
  refine tk 1 ?_
  refine tk 2 ?_
  refine tk 3 ?_
  refine tk 4 ?_
  refine ac 5 fun K hK=>?_
  refine step_copy rfl (.tmp 48) (.tmp 50) rfl _ _ _ (by rfl) (by rfl) HCP7.out ?_
  refine hK.out _ _ ?_ (fun hHeld=>?_)
  ·trivial
  clear hK K
  try simp only [zA,zB,zC,zD,zE,zF,zG,zH]
  refine wpAnyH_done (by kernel_rfl) ?_ _
  clear hHeld
  have hcp8:=fun ty=>run_copy_to (W:=w1.drew) (g:=q) (m:=32) (c1:=32) (o:=36) (k:=32) (show w1.drew.heap[q]?=_ from HB7.out) (a:=some ⟨g,o+48,none⟩) (n:=32) (c2:=c - 48) (l:=l.drop 48) (.inr ⟨g,o+48,c - 48,by rw [List.length_drop,HL.out],by rw [List.length_drop,HL.out];have:=HC.out;have:=HL.out;omega,by have:=HC.out;omega,Nat.lt_of_lt_of_le HR.out.1 HK7.out.size,rangeAt_of_heap (range_drop HR.out.2 48) (HK7.out.block g HR.out.1 (by simp))⟩) (by omega) (by rw [List.length_drop,HL.out]) rfl (by rw [C1_len.out];omega) ty
  have hcur8:C1.take 36++((l.drop 48).take 32).map B++C1.drop (36+32)=C2:=d2
  simp only [hcur8] at hcp8
  obtain ⟨w2,hw2⟩:∃ x,x=w1.drew.setRow q C2.toArray:=⟨_,rfl⟩
  rw [← hw2] at hcp8
  have HB8:=Lib.hid (show w2.heap[q]?=some (.cells C2.toArray 194 (0,0)) by rw [hw2];exact setRow_heap w1.drew q _ _ _ _ HB7.out)
  have HK8:=Lib.hid (show Keeps [] w w2 by rw [hw2];exact HK7.out.drew.setRow (.inr (by have:=HQ.out;omega)) _)
  have HCP8:=Lib.hid hcp8
  clear hcp8 hcur8 hw2
  go_upto_region 8 with fail
  refine wp_region_held_drew (S:=(fun w'=>True)) (by kernel_rfl) ?_ (fun hHeld=>?_)
  ·trivial
  refine tk 0 ?_
  refine tk 1 ?_
  refine tk 2 ?_
  refine tk 3 ?_
  refine tk 4 ?_
  refine ac 5 fun K hK=>?_
  refine step_copy rfl (.tmp 54) (.tmp 56) rfl _ _ _ (by rfl) (by rfl) HCP8.out ?_
  refine hK.out _ _ ?_ (fun hHeld=>?_)
  ·trivial
  clear hK K
  try simp only [zA,zB,zC,zD,zE,zF,zG,zH]
  refine wpAnyH_done (by kernel_rfl) ?_ _
  clear hHeld
  have HR2:=Lib.hid (rangeAt_all HB8.out)
  have HS2:=Lib.hid (show (Tryz.prog.info? 194).map (·.size)=some C2.length by rw [C2_len.out];exact size_nbranch)
  clear d1 d2
  go_wp2_with (first | (refine wpList_load_mid rfl 194 (.tmp 6) rfl q 0 (by rfl) C2 _ HR2.out Tryz.underlying194 rfl HS2.out ?_;try simp only [zA,zB,zC,zD,zE,zF,zG,zH]))
  go_ret
  exact ⟨by rw [← HC2.out];rfl,HK8.out⟩
open Go.RowKit
theorem isAgg_int (w:World):(isAgg 3).run Tryz.prog w=.ok false w:=by kernel_rfl
theorem isAgg_digest (w:World):(isAgg 88).run Tryz.prog w=.ok true w:=by kernel_rfl
theorem sizeOf_digest (w:World):(sizeOf 88).run Tryz.prog w=.ok 32 w:=by kernel_rfl
def cF1:Field:={ name := "page", type:=3,offset:=0,embedded:=false,tag := "", pkgPath := "ledger/node", byteOffset:=0 }
def cF2:Field:={ name := "count", type:=3,offset:=1,embedded:=false,tag := "", pkgPath := "ledger/node", byteOffset:=8 }
def cF3:Field:={ name := "sum", type:=88,offset:=2,embedded:=false,tag := "", pkgPath := "ledger/node", byteOffset:=16 }
theorem cF1_name:cF1.name ≠ "_" := by decide
theorem cF2_name:cF2.name ≠ "_" := by decide
theorem cF3_name:cF3.name ≠ "_" := by decide
theorem child_fields:(Tryz.prog.fieldsOf 192).toList=[cF1,cF2,cF3]:=by kernel_rfl
theorem child_part (w:World) (p c:Int) {s:List UInt8} (hs:s.length=32):(part 3 (childC p c s).toArray 0).run Tryz.prog w=.ok (.int .i64 p) w∧(part 3 (childC p c s).toArray 1).run Tryz.prog w=.ok (.int .i64 c) w∧(part 88 (childC p c s).toArray 2).run Tryz.prog w=.ok (.agg (s.map B).toArray) w:=by
 refine ⟨?_,?_,?_⟩
 ·simp only [part,isAgg_int,Sem.run_bind,Result.andThen_ok]
  rfl
 ·simp only [part,isAgg_int,Sem.run_bind,Result.andThen_ok]
  rfl
 ·simp only [part,isAgg_digest,sizeOf_digest,Sem.run_bind,Result.andThen_ok,if_true,Sem.run_pure]
  congr 2
  apply Array.ext'
  rw [Array.toList_extract,List.extract_eq_take_drop]
  show ((s.map B)).take 32=s.map B
  exact List.take_of_length_le (by simp [hs])
theorem child_und:Tryz.prog.underlying 192=some (.struct (Tryz.prog.fieldsOf 192)):=by kernel_rfl
theorem child_stood:Tryz.prog.stoodInHeld 192=false:=by kernel_rfl
theorem eqf_cons {d:Nat} {xs ys:Array Value} {f:Field} {fs:List Field} {w:World} {a b:Value} {r:Bool} (hn:f.name ≠ "_") (ha:(part f.type xs f.offset).run Tryz.prog w=.ok a w) (hb:(part f.type ys f.offset).run Tryz.prog w=.ok b w) (he:(Op.equalIn d f.type a b).run Tryz.prog w=.ok r w) :
  (Op.eqFields d xs ys (f :: fs)).run Tryz.prog w=if r=true then (Op.eqFields d xs ys fs).run Tryz.prog w else .ok false w:=by
 rw [Op.eqFields]
 rw [if_pos hn]
 simp only [Sem.run_bind,ha,hb,he,Result.andThen_ok]
 cases r
 ·rfl
 ·rfl
theorem eqf_nil {d:Nat} {xs ys:Array Value} {w:World}:(Op.eqFields d xs ys []).run Tryz.prog w=.ok true w:=by rw [Op.eqFields];rfl
theorem child_eq (w:World) (d:Nat) (p c p2 c2:Int) {s s2:List UInt8} (hs:s.length=32) (hs2:s2.length=32) :
  (Op.equalIn (d+3) 192 (.agg (childC p c s).toArray) (.agg (childC p2 c2 s2).toArray)).run Tryz.prog w=.ok (p == p2 && c == c2 && s == s2) w:=by
 obtain ⟨a1,a2,a3⟩:=child_part w p c hs
 obtain ⟨b1,b2,b3⟩:=child_part w p2 c2 hs2
 have e1:=run_equalIn_int (P:=Tryz.prog) w (d+1) 3 .i64 .i64 p p2 Tryz.underlying3
 have e2:=run_equalIn_int (P:=Tryz.prog) w (d+1) 3 .i64 .i64 c c2 Tryz.underlying3
 have e3:=run_equalIn_bytes w d Tryz.underlying88 hs hs2
 have h:=run_equalIn_struct (P:=Tryz.prog) w (d+2) 192 (childC p c s).toArray (childC p2 c2 s2).toArray child_und child_stood
 have g1:=eqf_cons (f:=cF1) (fs:=[cF2,cF3]) cF1_name a1 b1 e1
 have g2:=eqf_cons (f:=cF2) (fs:=[cF3]) cF2_name a2 b2 e2
 have g3:=eqf_cons (f:=cF3) (fs:=[]) cF3_name a3 b3 e3
 rw [child_fields,g1,g2,g3,eqf_nil] at h
 refine Eq.trans h ?_
 by_cases h1:(p == p2)=true <;> by_cases h2:(c == c2)=true <;> by_cases h3:(s == s2)=true <;> simp [h1,h2,h3]
def childOk (p c:Nat) (s:List UInt8):Bool:=if p=0 then c == 0 && s == z32 else decide (2≤p) && decide (p < 4096) && decide (0 < c) && decide (c≤4096)
def branchOk (lp lc:Nat) (ls:List UInt8) (rp rc:Nat) (rs:List UInt8):Bool:=childOk lp lc ls && childOk rp rc rs && decide (lp≠rp) && decide (2≤lc+rc) && decide (lc+rc≤4096)
set_option maxRecDepth 100000 in
set_option maxHeartbeats 800000 in
theorem leafStands_any {w:World} {key:List UInt8} {a:Option Addr} {n c:Nat} (hk:key.length=32) :
  Calls Tryz.prog 139 #[.agg (leafC key (.slice a n c)).toArray] w fun e w'=>e=.returned (.bool (decide (n≤128)))∧Keeps [] w w':=by
 obtain ⟨C,hC⟩:∃ C,C=leafC key (.slice a n c):=⟨_,rfl⟩
 rw [← hC]
 obtain ⟨q,hq⟩:∃ q,q=w.heap.size:=⟨_,rfl⟩
 obtain ⟨w1,hw1⟩:∃ x,x=w.alloc (.cells C.toArray 189 (0,0)):=⟨_,rfl⟩
 have k1:Keeps [] w w1:=by rw [hw1];exact (Keeps.refl _ _).alloc _
 have c1:w1.cell? ⟨q,32,none⟩=some (.slice a n c):=by
  rw [cell_of_row w1 q 32 _ _ _ (show w1.heap[q]?=some (.cells C.toArray 189 (0,0)) by rw [hw1];exact heap_new_at hq),hC]
  simp [leafC,hk]
 obtain ⟨bb,hbb⟩:∃ b,b=decide (n≤128):=⟨_,rfl⟩
 rw [← hbb]
 have HW1:=Lib.hid hw1
 have HQ:=Lib.hid hq
 have HK1:=Lib.hid k1
 have HB:=Lib.hid hbb
 clear hw1 hq k1 hC hbb
 by_cases hn:n≤128
 ·have hi:(n:Int)≤128:=by omega
  go_enter Tryz.func139,Tryz.ntmps139
  go_upto_region 1 with fail
  rw [← HW1.out,← HQ.out]
  go_wp2_with fail
  go_ret
  exact ⟨by rw [HB.out,decide_eq_true hn];rfl,HK1.out⟩
 ·have hi:¬ (n:Int)≤128:=by omega
  go_enter Tryz.func139,Tryz.ntmps139
  go_upto_region 1 with fail
  rw [← HW1.out,← HQ.out]
  go_wp2_with fail
  go_ret
  exact ⟨by rw [HB.out,decide_eq_false hn];rfl,HK1.out⟩
theorem child_cells {w:World} {q:Nat} {p c:Int} {s:List UInt8} (h:w.heap[q]?=some (.cells (childC p c s).toArray 192 (0,0))):w.cell? ⟨q,0,none⟩=some (.int .i64 p)∧w.cell? ⟨q,1,none⟩=some (.int .i64 c) :=
 ⟨by rw [cell_of_row w q 0 _ _ _ h];rfl,by rw [cell_of_row w q 1 _ _ _ h];rfl⟩
theorem run_build_child0 (w:World):(Instr.build 192 #[]).run Tryz.prog w=.ok (.agg (childC 0 0 z32).toArray) w:=by kernel_rfl
set_option maxRecDepth 100000 in
set_option maxHeartbeats 1600000 in
theorem childStands_any {w:World} {p c:Nat} {s:List UInt8} (hs:s.length=32) (hp:p < 4294967296) (hc:c < 4294967296) :
  Calls Tryz.prog 140 #[.agg (childC p c s).toArray] w fun e w'=>e=.returned (.bool (childOk p c s))∧Keeps [] w w':=by
 obtain ⟨C,hC⟩:∃ C,C=childC p c s:=⟨_,rfl⟩
 obtain ⟨Z,hZ⟩:∃ Z,Z=childC 0 0 z32:=⟨_,rfl⟩
 have hCl:C.length=34:=by rw [hC];exact childC_length hs _ _
 obtain ⟨q,hq⟩:∃ q,q=w.heap.size:=⟨_,rfl⟩
 obtain ⟨w1,hw1⟩:∃ x,x=w.alloc (.cells C.toArray 192 (0,0)):=⟨_,rfl⟩
 have k1:Keeps [] w w1:=by rw [hw1];exact (Keeps.refl _ _).alloc _
 have b1:w1.heap[q]?=some (.cells C.toArray 192 (0,0)):=by rw [hw1];exact heap_new_at hq
 have hb2:=b1
 rw [hC] at hb2
 obtain ⟨c0,c1⟩:=child_cells hb2
 have hq2:=fun w=>child_eq w 9997 p c 0 0 hs (show z32.length=32 from rfl)
 rw [← hC,← hZ] at hq2
 have hbl:=run_build_child0
 rw [← hZ] at hbl
 obtain ⟨bb,hbb⟩:∃ b,b=childOk p c s:=⟨_,rfl⟩
 rw [← hC,← hbb]
 have HBL:=Lib.hid hbl
 have HR:=Lib.hid (rangeAt_all b1)
 have HSZ:=Lib.hid (show (Tryz.prog.info? 192).map (·.size)=some C.length by rw [hCl];exact size_nchild)
 have HW1:=Lib.hid hw1
 have HQ:=Lib.hid hq
 have HK1:=Lib.hid k1
 have HB:=Lib.hid hbb
 clear hw1 hq k1 hC hZ hbb b1 hb2 hbl hCl
 by_cases h0:p=0
 ·subst h0
  have hv:((((0:Nat):Int) == 0) && ((c:Int) == 0) && (s == z32))=bb:=by
   rw [HB.out]
   unfold childOk
   rw [if_pos rfl]
   have:((c:Int) == 0)=(c == 0):=by
    by_cases e:c=0
    ·subst e;rfl
    ·have e2:¬ (c:Int)=0:=by omega
     rw [beq_eq_false_iff_ne.2 e2,beq_eq_false_iff_ne.2 e]
   rw [this]
   rfl
  rw [hv] at hq2
  clear hv
  have hz:((0:Nat):Int)=0:=rfl
  rw [hz] at c0
  go_enter Tryz.func140,Tryz.ntmps140
  go_upto_region 1 with fail
  rw [← HW1.out,← HQ.out]
  go_wp2_with (first | (refine wpList_load_mid rfl 192 (.tmp 1) rfl q 0 (by rfl) C _ HR.out Tryz.underlying192 rfl HSZ.out ?_;try simp only [zA,zB,zC,zD,zE,zF,zG,zH]) | (refine wl_build rfl 192 #[] #[] rfl (by simp [Act.eval]) ?_;refine ⟨_,_,HBL.out _,?_⟩;try simp only [zA,zB,zC,zD,zE,zF,zG,zH]))
  go_ret
  exact ⟨rfl,HK1.out⟩
 ·clear hq2
  have hp0:¬ (p:Int)=0:=by omega
  have hv:bb=(decide (2≤p) && decide (p < 4096) && decide (0 < c) && decide (c≤4096)):=by rw [HB.out];unfold childOk;rw [if_neg h0]
  have HV:=Lib.hid hv
  clear hv h0
  by_cases h1:2≤p
  rotate_left 1
  ·have i1:¬ (2:Int)≤(p:Int):=by omega
   have HX:=Lib.hid (show bb=false by rw [HV.out];simp [h1])
   clear h1
   go_enter Tryz.func140,Tryz.ntmps140
   go_upto_region 1 with fail
   rw [← HW1.out,← HQ.out]
   go_wp2_with fail
   go_ret
   exact ⟨by rw [HX.out];rfl,HK1.out⟩
  have i1:(2:Int)≤(p:Int):=by omega
  by_cases h2:p < 4096
  rotate_left 1
  ·have i2:¬ (p:Int) < 4096:=by omega
   have HX:=Lib.hid (show bb=false by rw [HV.out];simp [h2])
   clear h2
   go_enter Tryz.func140,Tryz.ntmps140
   go_upto_region 1 with fail
   rw [← HW1.out,← HQ.out]
   go_wp2_with fail
   go_ret
   exact ⟨by rw [HX.out];rfl,HK1.out⟩
  have i2:(p:Int) < 4096:=by omega
  by_cases h3:0 < c
  rotate_left 1
  ·have i3:¬ (0:Int) < (c:Int):=by omega
   have HX:=Lib.hid (show bb=false by rw [HV.out];simp [h3])
   clear h3
   go_enter Tryz.func140,Tryz.ntmps140
   go_upto_region 1 with fail
   rw [← HW1.out,← HQ.out]
   go_wp2_with fail
   go_ret
   exact ⟨by rw [HX.out];rfl,HK1.out⟩
  have i3:(0:Int) < (c:Int):=by omega
  by_cases h4:c≤4096
  ·have i4:(c:Int)≤4096:=by omega
   have HX:=Lib.hid (show bb=true by rw [HV.out];simp [h1,h2,h3,h4])
   clear h1 h2 h3 h4
   go_enter Tryz.func140,Tryz.ntmps140
   go_upto_region 1 with fail
   rw [← HW1.out,← HQ.out]
   go_wp2_with fail
   go_ret
   exact ⟨by rw [HX.out];rfl,HK1.out⟩
  ·have i4:¬ (c:Int)≤4096:=by omega
   have HX:=Lib.hid (show bb=false by rw [HV.out];simp [h4])
   clear h1 h2 h3 h4
   go_enter Tryz.func140,Tryz.ntmps140
   go_upto_region 1 with fail
   rw [← HW1.out,← HQ.out]
   go_wp2_with fail
   go_ret
   exact ⟨by rw [HX.out];rfl,HK1.out⟩
set_option maxRecDepth 100000 in
theorem branch_cells {w:World} {q:Nat} {lp lc rp rc:Int} {ls rs:List UInt8} (hl:ls.length=32) (h:w.heap[q]?=some (.cells (branchC lp lc ls rp rc rs).toArray 194 (0,0))) :
  (w.cell? ⟨q,0,none⟩=some (.int .i64 lp)∧w.cell? ⟨q,1,none⟩=some (.int .i64 lc)∧w.cell? ⟨q,34,none⟩=some (.int .i64 rp)∧w.cell? ⟨q,35,none⟩=some (.int .i64 rc))∧w.rangeAt q 0 (childC lp lc ls)∧w.rangeAt q 34 (childC rp rc rs):=by
 have hcl:=childC_length hl lp lc
 have r0:w.rangeAt q 0 (childC lp lc ls):=rangeAt_part (xs:=[]) (ys:=childC lp lc ls) (zs:=childC rp rc rs) h
 have r1:w.rangeAt q 34 (childC rp rc rs):=by
  have:=rangeAt_part (w:=w) (b:=q) (xs:=childC lp lc ls) (ys:=childC rp rc rs) (zs:=[]) (t:=194) (fr:=(0,0)) (by rw [List.append_nil];exact h)
  rw [hcl] at this
  exact this
 have g0:=r0 0 _ rfl
 have g1:=r0 1 _ rfl
 have g2:=r1 0 _ rfl
 have g3:=r1 1 _ rfl
 exact ⟨⟨by simpa using g0,by simpa using g1,by simpa using g2,by simpa using g3⟩,r0,r1⟩
open Go.RowKit
theorem run_index_sum {l:List (List UInt8)} (h32:∀ s∈l,s.length=32) (hlen:l.length=256) {k:Nat} (hk:k < 256) {x:List UInt8} (hx:l[k]?=some x) (w:World) :
  (Instr.index 93 (.agg (sumCells l).toArray) (.int .i64 k)).run Tryz.prog w=.ok (.agg (x.map B).toArray) w:=by
 have h0:(0:Int)≤(k:Int):=by omega
 have h1:(k:Int) < ((256:Nat):Int):=by omega
 obtain ⟨hkl,hxe⟩:=List.getElem?_eq_some_iff.1 hx
 obtain ⟨xs,zs,he,hxl⟩:=sum_at h32 hkl
 have hxl2:(l[k].map B).length=32:=by rw [List.length_map];exact h32 _ (List.getElem_mem hkl)
 have hex:(sumCells l).toArray.extract (k * 32) (k * 32+32)=(x.map B).toArray:=by
  apply Array.ext'
  rw [Array.toList_extract,he,List.extract_eq_take_drop,List.append_assoc,List.drop_left' hxl,show k * 32+32 - k * 32=32 by omega,List.take_left' hxl2,hxe]
 simp only [Instr.index,asIntOf,run_underlying Tryz.underlying93,Sem.run_bind,Sem.run_pure,Result.andThen_ok,h0,h1,and_self,if_true,sizeOf_digest,part,isAgg_digest,Int.toNat_natCast,hex]
theorem WayAt.sums {w:World} {g:Nat} {n:Int} {S E:List (List UInt8)} (h:WayAt w g n S E):w.rangeAt g 1 (sumCells S):=by
 have:=rangeAt_part (w:=w) (b:=g) (xs:=[.int .i64 n]) (ys:=sumCells S) (zs:=sumCells E) (t:=95) (fr:=(0,0)) (by rw [List.append_assoc];exact h.row)
 simpa using this
theorem WayAt.empties {w:World} {g:Nat} {n:Int} {S E:List (List UInt8)} (h:WayAt w g n S E):w.rangeAt g 8193 (sumCells E):=by
 have:=rangeAt_part (w:=w) (b:=g) (xs:=.int .i64 n :: sumCells S) (ys:=sumCells E) (zs:=[]) (t:=95) (fr:=(0,0)) (by simpa using h.row)
 have hl:(Value.int .i64 n :: sumCells S).length=8193:=by rw [List.length_cons,sumCells_length h.s32,h.lenS]
 rw [hl] at this
 exact this
theorem sum_range {w:World} {g o:Nat} {l:List (List UInt8)} (h:w.rangeAt g o (sumCells l)) (h32:∀ s∈l,s.length=32) {k:Nat} {x:List UInt8} (hx:l[k]?=some x):w.rangeAt g (o+k * 32) (x.map B):=by
 obtain ⟨hkl,rfl⟩:=List.getElem?_eq_some_iff.1 hx
 exact SumsAt.row h h32 hkl rfl
set_option maxRecDepth 100000 in
set_option maxHeartbeats 3200000 in
theorem prove_zero {w:World} {s b bf c bm:Nat} {S:St} {sv:Value} {d:D} {F:List Nat} (h:StoreIn w s b S bf c bm sv) (hd:DiskAt w b d F) (hl:liveE d S.f=0)
  (h1:1≤S.f.sup.width) (h2:S.f.sup.width≤32) (ht:Tabs w) {key:List UInt8} (hkl:key.length=32) :
  Calls Tryz.prog 12 #[.pointer (some ⟨s,0,none⟩),.int .i64 0,.agg (key.map B).toArray] w fun r w'=>r=refusal 0∧Keeps [] w w':=by
 obtain ⟨Z,⟨hZ,hZi,hZ1⟩,hZb⟩:∃ Z:List Value,(Z.length=35∧(Tryz.prog.info? 57).map (fun i=>(i.zero,i.size,i.bytes))=some (some (.agg Z.toArray),35,88)∧(∀ v∈Z,v.oneCell'=true))∧Z=pfZC:=⟨_,pfZC_spec,rfl⟩
 unfold refusal
 rw [← hZb]
 obtain ⟨q5,hq5⟩:∃ q,q=w.heap.size:=⟨_,rfl⟩
 obtain ⟨q,hq0⟩:∃ q,q=(w.alloc (.cells (key.map B).toArray 60 (0,0))).heap.size:=⟨_,rfl⟩
 have hq:q=w.heap.size+1:=by rw [hq0];simp
 have HQ0:=Lib.hid hq0
 clear hq0
 obtain ⟨w1,hw1⟩:∃ x,x=(w.alloc (.cells (key.map B).toArray 60 (0,0))).alloc (.cells Z.toArray 57 (0,0)):=⟨_,rfl⟩
 have k1:Keeps [] w w1:=by rw [hw1];exact ((Keeps.refl _ _).alloc _).alloc _
 have b1:w1.heap[q]?=some (.cells Z.toArray 57 (0,0)):=by rw [hw1];exact heap_new_at (by simp;omega)
 have b5:Blk w1 q5 60 key:=by rw [hw1];exact (heap_old_at (by simp;omega)).trans (heap_new_at hq5)
 have hs1:=h.keeps k1 (by simp)
 have hd1:=hd.keeps k1 (by simp)
 have CL:=sLive_any hs1 hd1
 rw [hl] at CL
 obtain ⟨SP,hSP⟩:∃ SP,SP=supV S.f.sup:=⟨_,rfl⟩
 have hsup:=fun (wx:World) (hk:Keeps [] w1 wx)=>sSuper_any (hs1.keeps hk (by simp))
 have hfw:=fun (wx:World)=>field_width wx S.f.sup
 rw [← hSP] at hsup hfw
 obtain ⟨n,hn⟩:∃ n,n=S.f.sup.width:=⟨_,rfl⟩
 rw [← hn] at h1 h2 hfw
 have hbeg:=fun (wx:World) (hk:Keeps [] w1 wx)=>begin_any (w:=wx) n (by omega) (by omega) n.toNat (by omega) ((ht.keeps k1 (by simp) (by simp)).keeps hk (by simp) (by simp))
 obtain ⟨E,hE⟩:∃ E,E=emptiesL n.toNat 256:=⟨_,rfl⟩
 rw [← hE] at hbeg
 have hqd:=fun w (l:List UInt8) (h:l.length=32)=>run_equalIn_bytes w 9998 Tryz.underlying88 h h
 simp only [beq_self_eq_true] at hqd
 have HQD:=Lib.hid hqd
 have CL':=Lib.hid CL
 have HSU:=Lib.hid hsup
 have HFW:=Lib.hid hfw
 have HBG:=Lib.hid hbeg
 have HZI:=Lib.hid hZi
 have HW1:=Lib.hid hw1
 have HQ:=Lib.hid hq
 have HQ5:=Lib.hid hq5
 have HK1:=Lib.hid k1
 have HB1:=Lib.hid b1
 have HB5:=Lib.hid b5
 have HZ:=Lib.hid (And.intro hZ hZ1)
 have HSK:=Lib.hid (size_key_of hkl)
 have HSZ:=Lib.hid (show (Tryz.prog.info? 57).map (·.size)=some Z.length by rw [hZ];exact size_proof)
 clear hZi hw1 hq hq5 k1 b1 b5 hZ hZ1 hZb CL hs1 hd1 h hd hl hkl hsup hfw hbeg hn hSP ht hE hqd
 obtain ⟨X,hX,hXi⟩:∃ X:Array Value,X=Array.replicate 32 (.int .u8 0)∧(Tryz.prog.info? 88).map (fun i=>(i.zero,i.size,i.bytes))=some (some (.agg X),32,32):=⟨_,rfl,info_digest⟩
 have HX:=Lib.hid hX
 have HXI:=Lib.hid hXi
 clear hX hXi
 go_enter Tryz.func12,Tryz.ntmps12
 go_upto_region 1 with (first | (refine wl_alloc rfl 57 rfl ?_;refine ⟨_,_,run_alloc _ HZI.out,?_⟩;try simp only [zA,zB,zC,zD,zE,zF,zG,zH]))
 try simp only [Value.cells]
 rw [← HW1.out,← HQ0.out,← HQ5.out]
 go_upto_region 4 with (first | (go_at_call 20;refine CL'.out.mono ?_;rintro r w2 ⟨rfl,hk2⟩))
 go_upto_region 8 with fail
 go_upto_region 9 with (first | (go_at_call 9;refine (HSU.out _ hk2).mono ?_;rintro r w4 ⟨rfl,hk4⟩) | (refine wl_field rfl 42 (.tmp 39) 0 rfl ?_;refine ⟨_,_,HFW.out _,?_⟩;try simp only [zA,zB,zC,zD,zE,zF,zG,zH]) | (go_at_call 25;refine (HBG.out _ (hk2.trans (G:=[]) hk4 (by simp))).mono ?_;rintro r w5 ⟨qw,rfl,hway,hqw,hk5⟩))
 have hk15:=(hk2.trans (G:=[]) hk4 (by simp)).trans (G:=[]) hk5 (by simp)
 have HR5:=Lib.hid (rangeAt_all (HB5.out.keeps hk15 (by simp)))
 have HWAY:=Lib.hid hway
 have HK15:=Lib.hid hk15
 clear hk2 hk4 hk5 hk15 hway hqw
 go_upto_region 12 with (first | (refine wpList_load_mid rfl 60 (.tmp 5) rfl q5 0 (by rfl) (key.map B) _ HR5.out Tryz.underlying60 rfl HSK.out ?_;try simp only [zA,zB,zC,zD,zE,zF,zG,zH]) | (go_at_call 26;refine down_zero.mono ?_;rintro r w6 ⟨rfl,hk6⟩))
 obtain ⟨w7,hw7⟩:∃ x,x=w6.alloc (.cells Z.toArray 57 (0,0)):=⟨_,rfl⟩
 obtain ⟨qp,hqp⟩:∃ x,x=w6.heap.size:=⟨_,rfl⟩
 have k67:Keeps [] w6 w7:=by rw [hw7];exact (Keeps.refl _ _).alloc _
 have k17:=(HK15.out.trans (G:=[]) hk6 (by simp)).trans (G:=[]) k67 (by simp)
 have bp7:w7.heap[qp]?=some (.cells Z.toArray 57 (0,0)):=by rw [hw7];exact heap_new_at hqp
 have HB7:=Lib.hid ((k17.block q (lt_of_heap HB1.out) (by simp)).trans HB1.out)
 have HK7:=Lib.hid (HK1.out.trans (G:=[]) k17 (by simp))
 have HBP:=Lib.hid bp7
 have hway7:=(HWAY.out.keeps hk6 (by simp)).keeps k67 (by simp)
 have HWY:=Lib.hid hway7
 have HRS:=Lib.hid hway7.sums
 have HS8:=Lib.hid (show (Tryz.prog.info? 93).map (·.size)=some (sumCells E).length by rw [sumCells_length hway7.s32,hway7.lenS];exact size_256d)
 have HW7:=Lib.hid hw7
 have HQP:=Lib.hid hqp
 have hqwlt:=lt_of_heap hway7.row
 clear hw7 hqp k67 k17 bp7 hk6 hway7 HR5 HWAY HK15
 go_upto_region 18 with (first | (refine wl_alloc rfl 57 rfl ?_;refine ⟨_,_,run_alloc _ HZI.out,?_⟩;(try simp only [Value.cells]);rw [← HW7.out,← HQP.out];try simp only [zA,zB,zC,zD,zE,zF,zG,zH]))
 go_wp2_with (first | (refine wpList_load_mid rfl 93 (.tmp 107) rfl qw 1 (by rfl) (sumCells E) _ HRS.out Tryz.underlying93 rfl HS8.out ?_;try simp only [zA,zB,zC,zD,zE,zF,zG,zH]))
 go_loopw [109] (fun iv wr=>∃ j:Nat,j≤256∧iv=.int .i64 j∧Keeps [] w7 wr) (fun iv _=>256 - (intOf iv).toNat)
 case atStart=>exact ⟨0,by omega,rfl,Keeps.refl _ _⟩
 case round =>
  obtain ⟨j,hj,rfl,hkr⟩:=hrel
  by_cases hlt:j < 256
  ·obtain ⟨x,hx⟩:∃ x,E[j]?=some x:=⟨_,List.getElem?_eq_getElem (by rw [HWY.out.lenE];exact hlt)⟩
   have hx32:x.length=32:=HWY.out.e32 x (List.mem_of_getElem? hx)
   have HIX:=Lib.hid (run_index_sum HWY.out.e32 HWY.out.lenE hlt hx)
   have hrow:=HWY.out.keeps hkr (by simp)
   have HRE:=Lib.hid (sum_range hrow.empties HWY.out.e32 hx)
   have hqx:=fun w=>HQD.out w _ hx32
   have HSD:=Lib.hid (dg_size_of hx32)
   have HX32:=Lib.hid hx32
   have HKR:=Lib.hid hkr
   have b0:(0:Int)≤(j:Int):=by omega
   have b1:(j:Int) < ((256:Nat):Int):=by omega
   obtain ⟨g15,hg15⟩:∃ g,g=wr.heap.size:=⟨_,rfl⟩
   obtain ⟨w8,hw8⟩:∃ y,y=(wr.alloc (.cells X 88 (0,0))).setCells g15 0 (x.map B):=⟨_,rfl⟩
   have hst:=dg_run_store (w:=wr.alloc (.cells X 88 (0,0))) (q:=g15) ((heap_new_at hg15).trans (by rw [HX.out])) hx32
   rw [← hw8] at hst
   have b8:Blk w8 g15 88 x:=by rw [hw8];exact dg_store ((heap_new_at hg15).trans (by rw [HX.out])) hx32
   have k8:Keeps [] wr w8:=by rw [hw8];exact ((Keeps.refl _ _).alloc _).setCells (.inr (by omega)) _ _
   have HST:=Lib.hid hst
   have HB8:=Lib.hid (rangeAt_all b8)
   have HR8:=Lib.hid (rangeAt_of_heap HRE.out (k8.block qw (Nat.lt_of_lt_of_le hqwlt hkr.size) (by simp)))
   have HK8:=Lib.hid (hkr.trans (G:=[]) k8 (by simp))
   have HG:=Lib.hid hg15
   clear hx hx32 hrow hkr hw8 hst b8 k8 hg15 HRE HKR
   go_upto_region 21 with (first | (refine wl_index rfl 93 (.tmp 108) (.tmp 109) rfl ?_;refine ⟨_,_,HIX.out _,?_⟩;try simp only [zA,zB,zC,zD,zE,zF,zG,zH]) | (refine wl_alloc rfl 88 rfl ?_;refine ⟨_,_,run_alloc _ HXI.out,?_⟩;(try simp only [Value.cells]);rw [← HG.out];try simp only [zA,zB,zC,zD,zE,zF,zG,zH]) | (refine wl_store rfl 88 (.tmp 15) (.tmp 112) rfl ?_;refine ⟨_,HST.out,?_⟩;try simp only [zA,zB,zC,zD,zE,zF,zG,zH]))
   refine wp_region_held_drew (S:=(fun w'=>w'.rangeAt g15 0 (x.map B)∧w'.rangeAt qw (8193+j * 32) (x.map B))) (by kernel_rfl) ?_ (fun hHeld=>?_)
   ·exact ⟨HB8.out,HR8.out⟩
   refine tkb 0 rfl (yieldsIf_load_mid (by rfl) 88 (.tmp 15) rfl g15 0 rfl (x.map B) _ (fun _ h=>h.1) Tryz.underlying88 rfl HSD.out) ?_
   refine tk 1 ?_
   refine tk 2 ?_
   refine tk 3 ?_
   refine tk 4 ?_
   refine tk 5 ?_
   refine tkb 6 rfl (yieldsIf_load_mid (by rfl) 88 (.tmp 118) rfl qw (8193+j * 32) rfl (x.map B) _ (fun _ h=>h.2) Tryz.underlying88 rfl HSD.out) ?_
   refine tk 7 ?_
   refine wpAnyH_done (by kernel_rfl) ?_ _
   clear hHeld
   go_wp2_with fail
   go_roundw
   case rel=>exact ⟨j+1,by omega,by go_num,HK8.out.drew⟩
   case measure=>simp [intOf];omega
  ·have e:j=256:=by omega
   subst e
   have hbp:=(hkr.block qp (lt_of_heap HBP.out) (by simp)).trans HBP.out
   have HRP:=Lib.hid (rangeAt_all hbp)
   have HBQ:=Lib.hid ((hkr.block q (lt_of_heap HB7.out) (by simp)).trans HB7.out)
   have HKF:=Lib.hid (HK7.out.trans (G:=[]) hkr (by simp))
   clear hbp hkr
   go_wp2_with (first | (refine wpList_load_mid rfl 57 (.tmp 12) rfl qp 0 (by rfl) Z _ HRP.out Tryz.underlying57 rfl HSZ.out ?_;try simp only [zA,zB,zC,zD,zE,zF,zG,zH]) | (refine wl_store rfl 57 (.tmp 6) (.tmp 139) rfl ?_;refine ⟨_,run_store_pf HBQ.out HZ.out.1 HZ.out.1 HZ.out.2,?_⟩;try simp only [zA,zB,zC,zD,zE,zF,zG,zH]))
   refine bodyPost_ret (results_row2 (cs:=Z) rfl rfl rfl (rangeAt_all (store_all HBQ.out rfl)) Tryz.underlying57 rfl HSZ.out) rfl ⟨rfl,?_⟩
   exact HKF.out.setCells (.inr (by rw [HQ.out];omega)) _ _
open Go.RowKit
set_option maxRecDepth 100000 in
set_option maxHeartbeats 1600000 in
theorem r9Leaf_any {w:World} {key val:List UInt8} {v:Value} (hk:key.length=32) (hv:BytesAt w v val) (hl:val.length≤1048000) (n:Int) (k:Nat) (hkn:(k:Int)=min (max n 0) 32) (ht:RTabs w) :
  Calls Tryz.prog 34 #[.int .i64 n,.agg (key.map B).toArray,v] w fun e w'=>e=.returned (.agg ((leafD k key val).map B).toArray)∧Keeps [] w w':=by
 obtain ⟨a,c,rfl,hc,hm⟩:=hv.form
 obtain ⟨Z,hZl,hZi⟩:=info_dig
 obtain ⟨D,hD⟩:∃ D,D=leafD k key val:=⟨_,rfl⟩
 have hDl:D.length=32:=by rw [hD];exact cutL_length (shaL_length _) (by omega)
 obtain ⟨g4,hg4⟩:∃ x,x=w.heap.size:=⟨_,rfl⟩
 obtain ⟨wa,hwa⟩:∃ x,x=w.alloc (.cells (key.map B).toArray 60 (0,0)):=⟨_,rfl⟩
 obtain ⟨g6,hg6⟩:∃ x,x=wa.heap.size:=⟨_,rfl⟩
 obtain ⟨w1,hw1⟩:∃ x,x=wa.alloc (.cells (Z.map B).toArray 88 (0,0)):=⟨_,rfl⟩
 have e6:g6=w.heap.size+1:=by rw [hg6,hwa];simp
 have k1:Keeps [] w w1:=by rw [hw1,hwa];exact ((Keeps.refl _ _).alloc _).alloc _
 have b4:Blk w1 g4 60 key:=by rw [hw1];exact (heap_old_at (by rw [← hg6];omega)).trans (by rw [hwa];exact heap_new_at hg4)
 have b6:Blk w1 g6 88 Z:=by rw [hw1];exact heap_new_at hg6
 have htx:=r9LeafText_any hk (hv.keeps k1 (by simp)) (by omega)
 have hcut:=fun (wx:World) (rv:Value) (h:BytesAt wx rv (leafL key val)) (hx:RTabs wx)=>r9Cut_any h (by simp [leafL,hk];omega) n k hkn hx
 have hDe:cutL (shaL (leafL key val)) k=D:=by rw [hD];rfl
 rw [hDe] at hcut
 rw [← hD]
 have HTX:=Lib.hid htx
 have HCUT:=Lib.hid hcut
 have HT:=Lib.hid (ht.keeps k1 (by simp) (by simp))
 have HDL:=Lib.hid hDl
 have HZL:=Lib.hid hZl
 have HZI:=Lib.hid hZi
 have HG4:=Lib.hid hg4
 have HG6:=Lib.hid hg6
 have HE6:=Lib.hid e6
 have HWA:=Lib.hid hwa
 have HW1:=Lib.hid hw1
 have HK1:=Lib.hid k1
 have HB6:=Lib.hid b6
 have HR4:=Lib.hid (rangeAt_all b4)
 have HSK:=Lib.hid (size_key_of hk)
 have HSD:=Lib.hid (dg_size_of hDl)
 clear hv hZl hZi hD hDl hg4 hg6 e6 hwa hw1 k1 b4 b6 htx hcut hDe ht hc hm hk hkn
 go_enter Tryz.func34,Tryz.ntmps34
 go_upto_region 1 with (first | (refine wl_alloc rfl 88 rfl ?_;refine ⟨_,_,run_alloc _ HZI.out,?_⟩;try simp only [zA,zB,zC,zD,zE,zF,zG,zH]))
 try simp only [Value.cells]
 rw [← HWA.out,← HW1.out,← HG6.out,← HG4.out]
 go_wp2_with (first | (refine wpList_load_mid rfl 60 (.tmp 4) rfl g4 0 (by rfl) (key.map B) _ HR4.out Tryz.underlying60 rfl HSK.out ?_;try simp only [zA,zB,zC,zD,zE,zF,zG,zH]) | (go_at_call 62;refine HTX.out.mono ?_;rintro e w2 ⟨rv,rfl,hrv,hfv,hk2⟩) | (go_at_call 59;refine (HCUT.out _ _ (ownB_bytes hrv) (HT.out.keeps hk2 (by simp) (by simp))).mono ?_;rintro e w3 ⟨rfl,hk3⟩) | (refine wl_store rfl 88 (.tmp 6) (.tmp 13) rfl ?_;refine ⟨_,run_store_dig (HB6.out.keeps (hk2.trans (G:=[]) hk3 (by simp)) (by simp)) HZL.out HDL.out,?_⟩;try simp only [zA,zB,zC,zD,zE,zF,zG,zH]))
 have hk13:=hk2.trans (G:=[]) hk3 (by simp)
 refine bodyPost_ret (v:=.agg (D.map B).toArray) (results_row (by rfl) (by rfl) (rangeAt_all (dig_store (x:=D) (HB6.out.keeps hk13 (by simp)) (by rw [HZL.out,HDL.out]))) Tryz.underlying88 rfl HSD.out) rfl ⟨rfl,?_⟩
 exact (HK1.out.trans (G:=[]) hk13 (by simp)).setCells (.inr (by rw [HE6.out];omega)) _ _
set_option maxRecDepth 100000 in
set_option maxHeartbeats 1600000 in
theorem r9Branch_any {w:World} {l r:List UInt8} (hl:l.length=32) (hr:r.length=32) (n:Int) (k:Nat) (hk:(k:Int)=max 0 (min n 32)) (ht:RTabs w) :
  Calls Tryz.prog 60 #[.int .i64 n,.agg (l.map B).toArray,.agg (r.map B).toArray] w fun e w'=>e=.returned (.agg ((branchD k l r).map B).toArray)∧Keeps [] w w':=by
 obtain ⟨Z,hZl,hZi⟩:=info_dig
 obtain ⟨D,hD⟩:∃ D,D=branchD k l r:=⟨_,rfl⟩
 have hDl:D.length=32:=by rw [hD];exact cutL_length (shaL_length _) (by omega)
 obtain ⟨g4,hg4⟩:∃ x,x=w.heap.size:=⟨_,rfl⟩
 obtain ⟨wa,hwa⟩:∃ x,x=w.alloc (.cells (l.map B).toArray 88 (0,0)):=⟨_,rfl⟩
 obtain ⟨g5,hg5⟩:∃ x,x=w.heap.size+1:=⟨_,rfl⟩
 have eg5:g5=wa.heap.size:=by rw [hwa,hg5];simp
 obtain ⟨wb,hwb⟩:∃ x,x=wa.alloc (.cells (r.map B).toArray 88 (0,0)):=⟨_,rfl⟩
 obtain ⟨g6,hg6⟩:∃ x,x=wb.heap.size:=⟨_,rfl⟩
 have e6:g6=w.heap.size+2:=by rw [hg6,hwb,hwa];simp
 obtain ⟨w1,hw1⟩:∃ x,x=wb.alloc (.cells (Z.map B).toArray 88 (0,0)):=⟨_,rfl⟩
 have k1:Keeps [] w w1:=by rw [hw1,hwb,hwa];exact (((Keeps.refl _ _).alloc _).alloc _).alloc _
 have b4:Blk w1 g4 88 l:=by rw [hw1];exact (heap_old_at (by rw [← hg6];omega)).trans (by rw [hwb];exact (heap_old_at (by rw [← eg5];omega)).trans (by rw [hwa];exact heap_new_at hg4))
 have b5:Blk w1 g5 88 r:=by rw [hw1];exact (heap_old_at (by rw [← hg6];omega)).trans (by rw [hwb];exact heap_new_at eg5)
 have b6:Blk w1 g6 88 Z:=by rw [hw1];exact heap_new_at hg6
 have htx:=r9BranchText_any (w:=w1) hl hr n k hk
 have hcut:=fun (wx:World) (rv:Value) (h:BytesAt wx rv (branchL k l r)) (hx:RTabs wx)=>r9Cut_any h (by simp [branchL,hl,hr];omega) n k (by omega) hx
 have hDe:cutL (shaL (branchL k l r)) k=D:=by rw [hD];rfl
 rw [hDe] at hcut
 rw [← hD]
 have HTX:=Lib.hid htx
 have HCUT:=Lib.hid hcut
 have HT:=Lib.hid (ht.keeps k1 (by simp) (by simp))
 have HDL:=Lib.hid hDl
 have HZL:=Lib.hid hZl
 have HZI:=Lib.hid hZi
 have HG4:=Lib.hid hg4
 have HG5:=Lib.hid hg5
 have HG6:=Lib.hid hg6
 have HE6:=Lib.hid e6
 have HWA:=Lib.hid hwa
 have HWB:=Lib.hid hwb
 have HW1:=Lib.hid hw1
 have HK1:=Lib.hid k1
 have HB6:=Lib.hid b6
 have HR4:=Lib.hid (rangeAt_all b4)
 have HR5:=Lib.hid (rangeAt_all b5)
 have HS4:=Lib.hid (dg_size_of hl)
 have HS5:=Lib.hid (dg_size_of hr)
 have HSD:=Lib.hid (dg_size_of hDl)
 clear hZl hZi hD hDl hg4 hg5 eg5 hg6 e6 hwa hwb hw1 k1 b4 b5 b6 htx hcut hDe ht hk hl hr
 go_enter Tryz.func60,Tryz.ntmps60
 go_upto_region 1 with (first | (refine wl_alloc rfl 88 rfl ?_;refine ⟨_,_,run_alloc _ HZI.out,?_⟩;try simp only [zA,zB,zC,zD,zE,zF,zG,zH]))
 try simp only [Value.cells]
 rw [← HWA.out,← HWB.out,← HW1.out,← HG6.out,← HG5.out,← HG4.out]
 go_wp2_with (first | (refine wpList_load_mid rfl 88 (.tmp 4) rfl g4 0 (by rfl) (l.map B) _ HR4.out Tryz.underlying88 rfl HS4.out ?_;try simp only [zA,zB,zC,zD,zE,zF,zG,zH]) | (refine wpList_load_mid rfl 88 (.tmp 5) rfl g5 0 (by rfl) (r.map B) _ HR5.out Tryz.underlying88 rfl HS5.out ?_;try simp only [zA,zB,zC,zD,zE,zF,zG,zH]) | (go_at_call 85;refine HTX.out.mono ?_;rintro e w2 ⟨rv,rfl,hrv,hfv,hk2⟩) | (go_at_call 59;refine (HCUT.out _ _ (ownB_bytes hrv) (HT.out.keeps hk2 (by simp) (by simp))).mono ?_;rintro e w3 ⟨rfl,hk3⟩) | (refine wl_store rfl 88 (.tmp 6) (.tmp 14) rfl ?_;refine ⟨_,run_store_dig (HB6.out.keeps (hk2.trans (G:=[]) hk3 (by simp)) (by simp)) HZL.out HDL.out,?_⟩;try simp only [zA,zB,zC,zD,zE,zF,zG,zH]))
 have hk13:=hk2.trans (G:=[]) hk3 (by simp)
 refine bodyPost_ret (v:=.agg (D.map B).toArray) (results_row (by rfl) (by rfl) (rangeAt_all (dig_store (x:=D) (HB6.out.keeps hk13 (by simp)) (by rw [HZL.out,HDL.out]))) Tryz.underlying88 rfl HSD.out) rfl ⟨rfl,?_⟩
 exact (HK1.out.trans (G:=[]) hk13 (by simp)).setCells (.inr (by rw [HE6.out];omega)) _ _
set_option maxRecDepth 100000 in
set_option maxHeartbeats 800000 in
theorem r9Bit_any {w:World} {key:List UInt8} (hk:key.length=32) (i:Nat) (hi:i < 256) :
  Calls Tryz.prog 65 #[.agg (key.map B).toArray,.int .i64 i] w fun e w'=>e=.returned (.int .i64 (bitK key i:Nat))∧Keeps [] w w':=by
 obtain ⟨q8,hq8⟩:∃ q,q=i / 8:=⟨_,rfl⟩
 obtain ⟨r8,hr8⟩:∃ r,r=i % 8:=⟨_,rfl⟩
 have e1:(i:Int) / 8=(q8:Int):=by omega
 have e2:(i:Int) % 8=(r8:Int):=by omega
 have q1:(q8:Int) < 32:=by omega
 have q0:(0:Int)≤(q8:Int):=by omega
 have i0:(0:Int)≤(i:Int):=by omega
 obtain ⟨x,hx⟩:∃ x,key[q8]?=some x:=⟨_,List.getElem?_eq_getElem (by rw [hk];omega)⟩
 obtain ⟨n,hn⟩:∃ n,n=x.toNat:=⟨_,rfl⟩
 have hcell:=blk_cell (w:=w.alloc (.cells (key.map B).toArray 60 (0,0))) (t:=60) (heap_new_at rfl) hx
 rw [← hn] at hcell
 have hn256:n < 256:=by rw [hn];exact UInt8.toNat_lt _
 have hres:bitK key i=n / 2 ^ (7 - r8) % 2:=by
  unfold bitK
  rw [← hq8,← hr8,List.getD_eq_getElem?_getD,hx,hn]
  rfl
 obtain ⟨RR,hRR⟩:∃ R,R=bitK key i:=⟨_,rfl⟩
 rw [← hRR]
 rw [hres] at hRR
 have HRR:=Lib.hid hRR
 have HR:=Lib.hid (show r8 < 8 by omega)
 clear hq8 hr8 hx hn hres hk hi hRR
 go_enter Tryz.func65,Tryz.ntmps65
 go_wp2_with fail
 go_loopw [5,6] (fun v j wr=>∃ m u:Nat,r8≤m∧m≤7∧j=.int .i64 m∧v=.int .i64 u∧u=n / 2 ^ (m - r8)∧Keeps [] w wr) (fun _ j _=>7 - (intOf j).toNat)
 case atStart=>exact ⟨r8,n,Nat.le_refl _,by have:=HR.out;omega,by rw [e2],rfl,by simp,(Keeps.refl _ _).alloc _⟩
 case round =>
  obtain ⟨m,u,hrm,hm,rfl,rfl,hu,hkr⟩:=hrel
  have m0:(0:Int)≤(m:Int):=by omega
  have u0:(0:Int)≤(u:Int):=by omega
  have hu256:u < 256:=by rw [hu];exact Nat.lt_of_le_of_lt (Nat.div_le_self _ _) hn256
  by_cases hlt:m < 7
  ·have m1:(m:Int) < 7:=by omega
   obtain ⟨u2,hu2⟩:∃ x,x=u / 2:=⟨_,rfl⟩
   have e3:(u:Int) / 2=(u2:Int):=by omega
   have HU:=Lib.hid (And.intro hu2 hu)
   clear hu hu2
   go_wp2_with fail
   go_roundw
   case rel =>
    refine ⟨m+1,u2,by omega,by omega,by go_num,rfl,?_,hkr⟩
    rw [HU.out.1,HU.out.2,Nat.div_div_eq_div_mul,← Nat.pow_succ,show (m - r8).succ=m+1 - r8 by omega]
   case measure=>simp [intOf];omega
  ·obtain rfl:m=7:=by omega
   have m1:¬ ((7:Nat):Int) < 7:=by omega
   obtain ⟨u2,hu2⟩:∃ x,x=u % 2:=⟨_,rfl⟩
   have e3:(u:Int) % 2=(u2:Int):=by omega
   have HU:=Lib.hid (And.intro hu2 hu)
   clear hu hu2
   go_wp2_with fail
   go_ret
   refine ⟨?_,hkr⟩
   rw [show RR=u2 by rw [HRR.out,← HU.out.2,← HU.out.1]]
   rfl
theorem ownsRow_down {w:World} {base base':Nat} {e:TypeId} {size:Nat} {v:Value} {n:Nat} {xs:List Value} (h:w.ownsRow base e size v n xs) (hb:base'≤base):w.ownsRow base' e size v n xs:=by
 obtain ⟨h1,h2⟩:=h
 refine ⟨h1,?_⟩
 rcases h2 with h2 | ⟨g,cap,cur,hv,hg,r⟩
 ·exact .inl h2
 ·exact .inr ⟨g,cap,cur,hv,Nat.le_trans hb hg,r⟩
set_option maxRecDepth 100000 in
set_option maxHeartbeats 3200000 in
theorem r9Empties_any {w:World} (n:Int) (k:Nat) (hk:(k:Int)=max 0 (min n 32)) (ht:RTabs w) :
  Calls Tryz.prog 30 #[.int .i64 n] w fun e w'=>∃ v',e=.returned v'∧w'.ownsRow w.heap.size 88 32 v' 257 (sumCells (emptiesL k 257))∧Keeps [] w w':=by
 obtain ⟨Z,hZl,hZi⟩:=info_dig
 obtain ⟨w1,hw1⟩:∃ x,x=w.alloc (.cells #[.int .u8 2] 5 (0,0)):=⟨_,rfl⟩
 have k1:Keeps [] w w1:=by rw [hw1];exact (Keeps.refl _ _).alloc _
 have hx1:BytesAt w1 (.slice (some ⟨w.heap.size,0,none⟩) 1 1) [2]:=by rw [hw1];exact .inr ⟨_,0,1,rfl,by simp,by simp [maxLen],by simp,rangeAt_all (t:=5) (fr:=(0,0)) (heap_new_at rfl)⟩
 have hcut:=r9Cut_any hx1 (by simp) n k (by omega) (ht.keeps k1 (by simp) (by simp))
 rw [show cutL (shaL [2]) k=emptyD k 0 from rfl] at hcut
 obtain ⟨D,hD⟩:∃ D,D=emptyD k 0:=⟨_,rfl⟩
 rw [← hD] at hcut
 have hk32:k≤32:=by omega
 have hDl:D.length=32:=by rw [hD];exact emptyD_length hk32 0
 have hbr:=fun (wx:World) (h:Nat) (hx:RTabs wx)=>r9Branch_any (w:=wx) (emptyD_length hk32 h) (emptyD_length hk32 h) n k hk hx
 have HCUT:=Lib.hid hcut
 have HBR:=Lib.hid hbr
 have HD:=Lib.hid hD
 have HDL:=Lib.hid hDl
 have HZL:=Lib.hid hZl
 have HZI:=Lib.hid hZi
 have HW1:=Lib.hid hw1
 have HK1:=Lib.hid k1
 have HT:=Lib.hid (ht.keeps k1 (by simp) (by simp))
 have HSD:=Lib.hid (dg_size_of hDl)
 have HK32:=Lib.hid hk32
 clear hZl hZi hw1 k1 hx1 hcut hD hDl hbr ht hk hk32
 go_enter Tryz.func30,Tryz.ntmps30
 go_upto_region 2 with (first | (go_at_call 59;rw [← HW1.out];refine HCUT.out.mono ?_;rintro e w2 ⟨rfl,hk2⟩) | (refine wl_alloc rfl 88 rfl ?_;refine ⟨_,_,run_alloc _ HZI.out,?_⟩;(try simp only [Value.cells]);try simp only [zA,zB,zC,zD,zE,zF,zG,zH]) | (refine wl_store rfl 88 (.tmp 3) (.tmp 8) rfl ?_;refine ⟨_,run_store_dig (heap_new_at rfl) HZL.out HDL.out,?_⟩;try simp only [zA,zB,zC,zD,zE,zF,zG,zH]))
 obtain ⟨g3,hg3⟩:∃ x,x=w2.heap.size:=⟨_,rfl⟩
 obtain ⟨w3,hw3⟩:∃ x,x=(w2.alloc (.cells (Z.map B).toArray 88 (0,0))).setCells w2.heap.size 0 (D.map B):=⟨_,rfl⟩
 have b3:Blk w3 g3 88 D:=by rw [hw3,hg3];exact dig_store (heap_new_at rfl) (by rw [HZL.out,HDL.out])
 have k23:Keeps [] w2 w3:=by rw [hw3];exact ((Keeps.refl _ _).alloc _).setCells (.inr (Nat.le_refl _)) _ _
 rw [← hw3,← hg3]
 have k3:=(HK1.out.trans (G:=[]) hk2 (by simp)).trans (G:=[]) k23 (by simp)
 have hw2:w.heap.size≤w2.heap.size:=(HK1.out.trans (G:=[]) hk2 (by simp)).size
 obtain ⟨w4,hw4⟩:∃ x,x=w3.alloc (.cells (D.map B).toArray 88 (0,0)):=⟨_,rfl⟩
 have k34:Keeps [] w3 w4:=by rw [hw4];exact (Keeps.refl _ _).alloc _
 have ho4:w4.ownsRow w3.heap.size 88 32 (.slice (some ⟨w3.heap.size,0,none⟩) 1 1) 1 (sumCells (emptiesL k 1)):=by
  have h:=heap_new_at (w:=w3) (o:=.cells (D.map B).toArray 88 (0,0)) rfl
  rw [← hw4] at h
  have e:sumCells (emptiesL k 1)=D.map B:=by simp [sumCells,emptiesL,List.range_succ,HD.out]
  rw [e]
  exact ⟨by simp [HDL.out],.inr ⟨w3.heap.size,1,_,rfl,Nat.le_refl _,h,Nat.le_refl _,by simp [maxLen],by simp [HDL.out],by simp [HDL.out,List.take_of_length_le]⟩⟩
 have HR3:=Lib.hid (rangeAt_all b3)
 have HG3:=Lib.hid (show g3 < w3.heap.size from lt_of_heap b3)
 have HG3W:=Lib.hid (show w.heap.size≤g3∧w1.heap.size≤g3 by rw [hg3];exact ⟨hw2,hk2.size⟩)
 have HK3:=Lib.hid k3
 have HK34:=Lib.hid k34
 have HB4:=Lib.hid (b3.keeps k34 (by simp))
 have HO4:=Lib.hid ho4
 have HW4:=Lib.hid hw4
 have HT3:=Lib.hid (((HT.out.keeps hk2 (by simp) (by simp)).keeps k23 (by simp) (by simp)))
 clear hg3 hw3 b3 k23 k3 hw2 k34 ho4 hk2 hw4 HCUT
 go_upto_region 3 with (first | (refine wpList_load_mid rfl 88 (.tmp 3) rfl g3 0 (by rfl) (D.map B) _ HR3.out Tryz.underlying88 rfl HSD.out ?_;try simp only [zA,zB,zC,zD,zE,zF,zG,zH]) | (refine wl_buildSlice rfl 55 1 #[(0,.tmp 9)] #[(0,.agg (D.map B).toArray)] rfl (by simp [Act.eval]) ?_;refine ⟨_,_,run_buildSlice_one _ Tryz.underlying55 info_digest (cs:=(D.map B).toArray) (by simpa using HDL.out) (by omega) (by omega),?_⟩;try simp only [zA,zB,zC,zD,zE,zF,zG,zH]))
 rw [← HW4.out]
 go_wp2_with fail
 go_loopw [4,5] (fun v i wr=>∃ h:Nat,h≤256∧i=.int .i64 h∧wr.ownsRow w3.heap.size 88 32 v (1+h) (sumCells (emptiesL k (1+h)))∧Blk wr g3 88 (emptyD k h)∧Keeps [g3] w3 wr) (fun _ i _=>256 - (intOf i).toNat)
 case atStart=>exact ⟨0,Nat.zero_le _,rfl,HO4.out,by rw [← HD.out];exact HB4.out,HK34.out.mono (by simp)⟩
 case round =>
  obtain ⟨h,hh,rfl,hown,hb,hkr⟩:=hrel
  obtain ⟨a1,c1,rfl⟩:=own_form hown
  have h0:(0:Int)≤(h:Int):=by omega
  have hbr:w3.heap.size≤wr.heap.size:=hkr.size
  have HOWN:=Lib.hid hown
  have HKR:=Lib.hid hkr
  have HB:=Lib.hid hb
  clear hown hkr hb
  by_cases hlt:h < 256
  ·have h1:(h:Int) < 256:=by omega
   obtain ⟨E,hE⟩:∃ E,E=emptyD k h:=⟨_,rfl⟩
   obtain ⟨E2,hE2⟩:∃ E,E=emptyD k (h+1):=⟨_,rfl⟩
   have hEl:E.length=32:=by rw [hE];exact emptyD_length HK32.out h
   have hE2l:E2.length=32:=by rw [hE2];exact emptyD_length HK32.out (h+1)
   have hb2:=HB.out
   rw [← hE] at hb2
   have hT:RTabs wr:=HT3.out.keeps HKR.out (by have:=HT.out.lt;have:=HG3W.out.2;simp;omega) (by have:=HT.out.lt;have:=HG3W.out.2;simp;omega)
   have hbra:=HBR.out wr h hT
   rw [show branchD k (emptyD k h) (emptyD k h)=E2 by rw [hE2];rfl,← hE] at hbra
   have hon:1+h+1≤1073741824:=by omega
   have HBRA:=Lib.hid hbra
   have HE2:=Lib.hid (And.intro hE2 hE2l)
   have HEL:=Lib.hid hEl
   have HB2:=Lib.hid hb2
   have HRG:=Lib.hid (rangeAt_all hb2)
   have HSE:=Lib.hid (dg_size_of hEl)
   have HSE2:=Lib.hid (dg_size_of hE2l)
   clear hE hE2 hEl hE2l hb2 hT hbra HB
   go_upto_region 7 with (first | (refine wpList_load_mid rfl 88 (.tmp 3) rfl g3 0 (by rfl) (E.map B) _ HRG.out Tryz.underlying88 rfl HSE.out ?_;try simp only [zA,zB,zC,zD,zE,zF,zG,zH]) | (go_at_call 60;refine HBRA.out.mono ?_;rintro e w5 ⟨rfl,hk5⟩) | (refine wl_store rfl 88 (.tmp 3) (.tmp 18) rfl ?_;refine ⟨_,run_store_dig (HB2.out.keeps hk5 (by simp)) HEL.out HE2.out.2,?_⟩;try simp only [zA,zB,zC,zD,zE,zF,zG,zH]))
   obtain ⟨w6,hw6⟩:∃ x,x=w5.setCells g3 0 (E2.map B):=⟨_,rfl⟩
   have b6:Blk w6 g3 88 E2:=by rw [hw6];exact dig_store (x:=E2) (HB2.out.keeps hk5 (by simp)) (by rw [HEL.out,HE2.out.2])
   have k6:Keeps [g3] wr w6:=by rw [hw6];exact (hk5.mono (by simp)).setCells (.inl (by simp)) _ _
   rw [← hw6]
   have ho6:w6.ownsRow w3.heap.size 88 32 (.slice a1 (1+h) c1) (1+h) (sumCells (emptiesL k (1+h))):=ownsRow_keep HOWN.out (fun j hj=>k6.block j (World.ownsRow.lt HOWN.out j hj).2 (by have:=(World.ownsRow.lt HOWN.out j hj).1;have:=HG3.out;simp;omega))
   have hb6:w3.heap.size≤w6.heap.size:=Nat.le_trans hbr k6.size
   have HB6:=Lib.hid b6
   have HR6:=Lib.hid (rangeAt_all b6)
   have HK6:=Lib.hid (HKR.out.trans (G:=[g3]) k6 (fun j hj=>.inl hj))
   have HO6:=Lib.hid ho6
   clear hw6 b6 k6 ho6 hk5 HRG HB2 HOWN
   go_wp2_with (first | (refine wpList_load_mid rfl 88 (.tmp 3) rfl g3 0 (by rfl) (E2.map B) _ HR6.out Tryz.underlying88 rfl HSE2.out ?_;try simp only [zA,zB,zC,zD,zE,zF,zG,zH]) | (refine wl_buildSlice rfl 55 1 #[(0,.tmp 20)] #[(0,.agg (E2.map B).toArray)] rfl (by simp [Act.eval]) ?_;refine ⟨_,_,run_buildSlice_one _ Tryz.underlying55 info_digest (cs:=(E2.map B).toArray) (by simpa using HE2.out.2) (by omega) (by omega),?_⟩;try simp only [zA,zB,zC,zD,zE,zF,zG,zH]) | (refine wl_appD (w0:=w6) rfl (.tmp 19) (.tmp 21) rfl w3.heap.size (.slice a1 (1+h) c1) (1+h) (emptiesL k (1+h)) (by rfl) HO6.out E2 HE2.out.2 (by rfl) (by rfl) hon hb6 ?_))
   intro v7 w7 ho7 hk7 hb7
   obtain ⟨a7,c7,rfl⟩:=own_form ho7
   have HO7:=Lib.hid ho7
   have HK7:=Lib.hid (hk7 [g3] w3 HK6.out (Nat.le_refl _))
   have HB7:=Lib.hid (show Blk w7 g3 88 E2 from (hb7 g3 (lt_of_heap HB6.out) (fun e=>by have:=(World.ownsRow.lt HO6.out g3 e).1;have:=HG3.out;omega)).trans HB6.out)
   clear ho7 hk7 hb7
   try simp only [zA,zB,zC,zD,zE,zF,zG,zH]
   go_wp2_with fail
   go_roundw
   case rel =>
    refine ⟨h+1,by omega,by go_num,?_,?_,HK7.out⟩
    ·have e:emptiesL k (1+(h+1))=emptiesL k (1+h)++[E2]:=by
      unfold emptiesL
      rw [show 1+(h+1)=(1+h)+1 by omega,List.range_succ,List.map_append,HE2.out.1,show h+1=1+h by omega]
      rfl
     rw [e]
     exact HO7.out
    ·rw [← HE2.out.1];exact HB7.out
   case measure=>simp [intOf];omega
  ·obtain rfl:h=256:=by omega
   go_wp2_with fail
   go_ret
   have h2:=HOWN.out
   refine ⟨.slice a1 (1+256) c1,rfl,ownsRow_down h2 HK3.out.size,?_⟩
   exact (HK3.out.trans (G:=[g3]) HKR.out (fun j hj=>.inr (by simp at hj;have:=HG3W.out.1;omega))).mono (by simp)
end Go.Proofs.YtakaocenbempmaaGreatDoor
