/-
  Lemmas of a claim, bundle I: XCd XCe.
-/
import Derived.Laws.StructEq
import Derived.Deep.DeepCutAuto
import Derived.Test.YtakaocenbempmaaGreatDoorPfH
set_option linter.unusedVariables false
set_option linter.unusedSimpArgs false
namespace Go.Proofs.YtakaocenbempmaaGreatDoor
open Go.RowKit
theorem size_digest:(Tryz.prog.info? 88).map (·.size)=some 32:=by kernel_rfl
theorem size_digest_of {l:List UInt8} (h:l.length=32):(Tryz.prog.info? 88).map (·.size)=some (l.map B).length:=by rw [size_digest,List.length_map,h]
theorem pf_bits {w:World} {b:Nat} {p:Pf} {vv sv:Value} {t:TypeId} (h:w.heap[b]?=some (.cells (pfCells p vv sv).toArray t (0,0))) (hl:p.bits.length=32):w.rangeAt b 2 (p.bits.map B):=by
 have e:pfCells p vv sv=[.bool p.found,vv]++p.bits.map B++[sv]:=by simp [pfCells]
 rw [e] at h
 exact rangeAt_part h
set_option maxRecDepth 100000 in
theorem sameProof_true {w:World} {v1 v2:Value} {p:Pf} (h1:PfIn w v1 p) (h2:PfIn w v2 p) :
  Calls Tryz.prog 14 #[v1,v2] w fun e w'=>e=.returned (.bool true)∧Keeps [] w w':=by
 obtain ⟨vv1,sv1,rfl,hv1,hs1,hb,hd⟩:=h1
 obtain ⟨vv2,sv2,rfl,hv2,hs2,_,_⟩:=h2
 obtain ⟨a1,c1,rfl,hc1,hm1⟩:=hv1.form
 obtain ⟨a2,c2,rfl,hc2,hm2⟩:=hs1.form
 obtain ⟨a3,c3,rfl,hc3,hm3⟩:=hv2.form
 obtain ⟨a4,c4,rfl,hc4,hm4⟩:=hs2.form
 unfold maxLen at hm1 hm2 hm3 hm4
 obtain ⟨C1,hC1⟩:∃ C,C=pfCells p (.slice a1 p.val.length c1) (.slice a2 p.sums.length c2):=⟨_,rfl⟩
 obtain ⟨C2,hC2⟩:∃ C,C=pfCells p (.slice a3 p.val.length c3) (.slice a4 p.sums.length c4):=⟨_,rfl⟩
 rw [← hC1,← hC2]
 obtain ⟨w1,hw1⟩:∃ w1,w1=(w.alloc (.cells C1.toArray 57 (0,0))).alloc (.cells C2.toArray 57 (0,0)):=⟨_,rfl⟩
 have hk1:Keeps [] w w1:=by rw [hw1];exact ((Keeps.refl _ _).alloc _).alloc _
 have hx1:w1.heap[w.heap.size]?=some (.cells C1.toArray 57 (0,0)):=by rw [hw1,heap_old_at (by simp),heap_new_at rfl]
 have hx2:w1.heap[w.heap.size+1]?=some (.cells C2.toArray 57 (0,0)):=by rw [hw1,heap_new_at (by simp)]
 have hcl:=fun (wx:World) (hx:wx.heap[w.heap.size]?=some (.cells C1.toArray 57 (0,0))) (hy:wx.heap[w.heap.size+1]?=some (.cells C2.toArray 57 (0,0))) =>
  And.intro (And.intro (pf_cells (hC1 ▸ hx) hb) (pf_cells (hC2 ▸ hy) hb)) (And.intro (pf_bits (hC1 ▸ hx) hb) (pf_bits (hC2 ▸ hy) hb))
 have HCL:=Lib.hid hcl
 obtain ⟨⟨⟨e0,e1,e34⟩,f0,f1,f34⟩,_⟩:=hcl w1 hx1 hx2
 have hq:=fun w=>run_equalIn_bytes w 9998 Tryz.underlying54 hb hb
 have hqd:=fun w (l:List UInt8) (h:l.length=32)=>run_equalIn_bytes w 9998 Tryz.underlying88 h h
 have cS:=sameBytes_any (hv1.keeps hk1 (by simp)) (hv2.keeps hk1 (by simp))
 simp only [beq_self_eq_true] at hq hqd cS
 have CS:=Lib.hid cS
 have HS:=Lib.hid (size_32_of hb)
 have HS1:=Lib.hid hs1
 have HS2:=Lib.hid hs2
 have HD:=Lib.hid hd
 have HX1:=Lib.hid hx1
 have HX2:=Lib.hid hx2
 have HW:=Lib.hid hw1
 have HQD:=Lib.hid hqd
 have b0:((p.val.length:Int) != (p.val.length:Int))=false:=by simp
 have b1:((p.sums.length:Int) != (p.sums.length:Int))=false:=by simp
 have l1:=lt_of_heap hx1
 have l2:=lt_of_heap hx2
 clear hx1 hx2 hC1 hC2 hv1 hv2 hs1 hs2 cS hb hd hcl hqd
 go_enter Tryz.func14,Tryz.ntmps14
 go_upto_region 1 with fail
 rw [← HW.out]
 clear hw1
 go_wp2_with fail
 refine CS.out.mono ?_
 rintro e w2 ⟨rfl,hk2⟩
 have hx1:=(hk2.block _ l1 (by simp)).trans HX1.out
 have hx2:=(hk2.block _ l2 (by simp)).trans HX2.out
 clear e0 e1 e34 f0 f1 f34
 obtain ⟨⟨⟨e0,e1,e34⟩,f0,f1,f34⟩,r1,r2⟩:=HCL.out w2 hx1 hx2
 have R1:=Lib.hid r1
 have R2:=Lib.hid r2
 have K2:=Lib.hid (And.intro hx1 hx2)
 have hk02:=hk1.trans (G:=[]) hk2 (by simp)
 clear r1 r2 hx1 hx2
 go_wp2_with (first
  | (refine Go.BigFrame.wpList_want (by rfl) fun K hK=>wp_load_mid 54 (.tmp 20) rfl w.heap.size 2 (by rfl) (p.bits.map B) _ R1.out Tryz.underlying54 rfl HS.out (hK _ _ ?_))
  | (refine Go.BigFrame.wpList_want (by rfl) fun K hK=>wp_load_mid 54 (.tmp 22) rfl (w.heap.size+1) 2 (by rfl) (p.bits.map B) _ R2.out Tryz.underlying54 rfl HS.out (hK _ _ ?_)))
 obtain ⟨hx1,hx2⟩:=K2.out
 have KX:=Lib.hid (And.intro (And.intro hx1 hx2) hk02)
 clear e0 e1 e34 f0 f1 f34 hq hx1 hx2 hk1 hk2 hk02
 go_loopw [5] (fun i wr=>∃ k:Nat,k≤p.sums.length∧i=.int .i64 k∧(wr.heap[w.heap.size]?=some (.cells C1.toArray 57 (0,0))∧wr.heap[w.heap.size+1]?=some (.cells C2.toArray 57 (0,0)))∧Keeps [] w wr) (fun i _=>p.sums.length - (intOf i).toNat)
 case atStart=>exact ⟨0,Nat.zero_le _,rfl,KX.out.1,KX.out.2⟩
 case round =>
  obtain ⟨k,hk,rfl,⟨hx1,hx2⟩,hkr⟩:=hrel
  obtain ⟨⟨⟨e0,e1,e34⟩,f0,f1,f34⟩,r1,r2⟩:=HCL.out wr hx1 hx2
  have KR:=Lib.hid (And.intro (And.intro hx1 hx2) hkr)
  clear e0 e1 f0 f1 r1 r2 hx1 hx2 hkr
  by_cases hlt:k < p.sums.length
  ·obtain ⟨g1,o1,rfl,hg1,hr1⟩:=HS1.out.at (by omega)
   obtain ⟨g2,o2,rfl,hg2,hr2⟩:=HS2.out.at (by omega)
   have q1:=SumsAt.row hr1 HD.out hlt (KR.out.2.block g1 hg1 (by simp))
   have q2:=SumsAt.row hr2 HD.out hlt (KR.out.2.block g2 hg2 (by simp))
   have hl:=HD.out _ (List.getElem_mem hlt)
   have hqx:=fun w=>HQD.out w _ hl
   have hsd:=size_digest_of hl
   obtain ⟨x,hx⟩:∃ x,x=p.sums[k]:=⟨_,rfl⟩
   rw [← hx] at q1 q2 hqx hsd
   have b0:(0:Int)≤(k:Int):=by omega
   have b1:(k:Int) < (p.sums.length:Int):=by omega
   have Q1:=Lib.hid q1
   have Q2:=Lib.hid q2
   have HSD:=Lib.hid hsd
   clear q1 q2 hr1 hr2 hx hl hsd
   go_wp2_with fail
   refine wp_region_held_drew (S:=(fun w'=>(w'.cell? ⟨w.heap.size,34,none⟩=some (Value.slice (some ⟨g1,o1,none⟩) p.sums.length c2)∧w'.cell? ⟨w.heap.size+1,34,none⟩=some (Value.slice (some ⟨g2,o2,none⟩) p.sums.length c4))∧(w'.rangeAt g1 (o1+k * 32) (x.map B)∧w'.rangeAt g2 (o2+k * 32) (x.map B)))) (by kernel_rfl) ?_ (fun hHeld=>?_)
   ·exact ⟨⟨e34,f34⟩,Q1.out,Q2.out⟩
   refine tk 0 ?_
   refine tk 1 ?_
   refine tk 2 ?_
   refine tk 3 ?_
   refine tkb 4 rfl (yieldsIf_load_mid (by rfl) 88 (.tmp 45) rfl g1 (o1+k * 32) rfl (x.map B) _ (fun _ h=>h.2.1) Tryz.underlying88 rfl HSD.out) ?_
   refine tk 5 ?_
   refine tk 6 ?_
   refine tk 7 ?_
   refine tk 8 ?_
   refine tkb 9 rfl (yieldsIf_load_mid (by rfl) 88 (.tmp 50) rfl g2 (o2+k * 32) rfl (x.map B) _ (fun _ h=>h.2.2) Tryz.underlying88 rfl HSD.out) ?_
   refine tk 10 ?_
   refine wpAnyH_done (by kernel_rfl) ?_ _
   go_wp2_with fail
   go_roundw
   case rel=>exact ⟨k+1,by omega,by go_num,KR.out.1,KR.out.2.drew⟩
   case measure=>simp [intOf];omega
  ·go_wp2_with fail
   go_ret
   exact ⟨rfl,KR.out.2⟩
open Go.RowKit
theorem yieldsIf_build {P:Program} {ops:Array Oper} {S:World→Prop} {o:Oper} {a:Act} {v:Value} (hw:Region.wanted o (yielded ops a.tmps)=true) (t:TypeId) (ps:Array (Nat × Operand)) (vs:Array (Nat × Value)) (ho:o.op=.build t ps) (hvs:(ps.map fun p=>(p.1,a.eval p.2))=vs)
  (h:∀ w,(Instr.build t vs).run P w=.ok v w):YieldsIf P ops S o v a :=
 .inl ⟨hw,fun w _=>by
  subst hvs
  unfold execOp
  simp only [ho,Sem.run_bind,Sem.run_pure,h,Result.andThen_ok]⟩
def zProof:Value:=.agg (pfCells ⟨false,[],List.replicate 32 0,[]⟩ (.slice none 0 0) (.slice none 0 0)).toArray
theorem info_proof:(Tryz.prog.info? 57).map (fun i=>(i.zero,i.size,i.bytes))=some (some zProof,35,88):=by kernel_rfl
theorem results_pf {fn:Func} {tmps:Array Value} {w:World} {s b:Nat} {cs:List Value} (h:fn.results=#[.cell s 57]) (hv:tmps.getD s undef=.pointer (some ⟨b,0,none⟩)) (hr:w.rangeAt b 0 cs) (hl:cs.length=35) :
  (results fn tmps).run Tryz.prog w=.ok (.agg cs.toArray) w:=by
 have h1:=run_loadVar_mid w b 0 57 cs _ hr Tryz.underlying57 rfl (by rw [size_proof,hl])
 simp only [Array.getD_eq_getD_getElem?] at hv
 simp [results,h,hv,h1,asAddr]
theorem pf_ones {p:Pf} {a1 a2:Option Addr} {n1 c1 n2 c2:Nat}:∀ v∈pfCells p (.slice a1 n1 c1) (.slice a2 n2 c2),v.oneCell'=true:=by
 intro v hv
 simp only [pfCells,List.mem_cons,List.mem_append,List.not_mem_nil,or_false] at hv
 rcases hv with rfl | rfl | hv | rfl
 ·rfl
 ·rfl
 ·exact B_one _ v hv
 ·rfl
def OwnS (w:World) (v:Value) (l:List (List UInt8)):Prop:=w.ownsRow 0 88 32 v l.length (sumCells l)
theorem ownS_sums {w:World} {v:Value} {l:List (List UInt8)} (h:OwnS w v l):SumsAt w v l:=by
 rcases h.2 with ⟨rfl,h0⟩ | ⟨g,cap,cur,rfl,_,hh,h1,h2,h3,h4⟩
 ·exact .inl ⟨List.eq_nil_of_length_eq_zero h0,none,0,rfl,by simp [maxLen]⟩
 ·refine .inr ⟨g,0,cap,rfl,h1,h2,lt_of_heap hh,fun j u hj=>?_⟩
  rw [Nat.zero_add,cell_of_row w g j _ _ _ hh]
  rw [← h4,List.getElem?_take] at hj
  split at hj
  ·simpa using hj
  ·cases hj
theorem info_digest:(Tryz.prog.info? 88).map (fun i=>(i.zero,i.size,i.bytes))=some (some (.agg (Array.replicate 32 (.int .u8 0))),32,32):=by kernel_rfl
theorem ownB_slice {w:World} {v:Value} {l:List UInt8} (h:OwnB w v l):∃ a c,v=.slice a l.length c:=by
 obtain ⟨a,c,h,_⟩:=(ownB_bytes h).form
 exact ⟨a,c,h⟩
theorem store_all {w:World} {b:Nat} {cs z:List Value} {t:TypeId} (h:w.heap[b]?=some (.cells z.toArray t (0,0))) (hl:z.length=cs.length):(w.setCells b 0 cs).heap[b]?=some (.cells cs.toArray t (0,0)):=by
 have:=heap_setCells_same b t cs 0 w z h (by omega)
 rw [this]
 simp [← hl]
theorem pf_set34 {p:Pf} (hb:p.bits.length=32) (vv sv sv2:Value):(pfCells p vv sv).toArray.setIfInBounds 34 sv2=(pfCells p vv sv2).toArray:=by
 rw [List.setIfInBounds_toArray]
 congr 1
 unfold pfCells
 rw [List.set_cons_succ,List.set_cons_succ,List.set_append_right _ _ (by rw [List.length_map,hb];exact Nat.le_refl _),List.length_map,hb]
 rfl
theorem own_slice_e {w:World} {base:Nat} {e:TypeId} {size:Nat} {v:Value} {n:Nat} {xs:List Value} (h:w.ownsRow base e size v n xs):∃ a c,v=.slice a n c:=by
 rcases h.2 with ⟨rfl,rfl⟩ | ⟨g,cap,cur,rfl,_⟩
 ·exact ⟨_,_,rfl⟩
 ·exact ⟨_,_,rfl⟩
theorem run_store_pf {w:World} {q:Nat} {z cs:List Value} (h:w.heap[q]?=some (.cells z.toArray 57 (0,0))) (hz:z.length=35) (hc:cs.length=35) (h1:∀ v∈cs,v.oneCell'=true) :
  (Instr.storeAt 57 (.pointer (some ⟨q,0,none⟩)) (.agg cs.toArray)).run Tryz.prog w=.ok () (w.setCells q 0 cs):=by
 have:=run_storeAt_mid (P:=Tryz.prog) w q 0 57 cs.toArray (there_all h 0 _ (by simp [hz,hc])) (by rw [size_proof];simp [hc]) (all_oneCell_toArray h1)
 simpa using this
end Go.Proofs.YtakaocenbempmaaGreatDoor
