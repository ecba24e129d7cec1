/-
  Layer 12's law: the walk of copyProof.
-/
import Derived.Test.YtnobhfpjchofpaaCd
namespace Go.Proofs.Ytnobhfpjchofpaa
set_option linter.unusedVariables false
set_option linter.unusedSimpArgs false
open Go.RowKit

/-- A build whose parts are known yields its value. -/
theorem yieldsIf_build {P : Program} {ops : Array Oper} {S : World → Prop} {o : Oper} {a : Act} {v : Value} (hw : Region.wanted o (yielded ops a.tmps) = true) (t : TypeId) (ps : Array (Nat × Operand)) (vs : Array (Nat × Value)) (ho : o.op = .build t ps) (hvs : (ps.map fun p => (p.1, a.eval p.2)) = vs)
    (h : ∀ w, (Instr.build t vs).run P w = .ok v w) : YieldsIf P ops S o v a :=
  .inl ⟨hw, fun w _ => by
    subst hvs
    unfold execOp
    simp only [ho, Sem.run_bind, Sem.run_pure, h, Result.andThen_ok]⟩
def zProof : Value := .agg (pfCells ⟨false, [], List.replicate 32 0, []⟩ (.slice none 0 0) (.slice none 0 0)).toArray
theorem info_proof : (Try.prog.info? 30).map (fun i => (i.zero, i.size, i.bytes)) = some (some zProof, 35, 88) := by kernel_rfl
theorem zProof_cells : zProof.cells = (pfCells ⟨false, [], List.replicate 32 0, []⟩ (.slice none 0 0) (.slice none 0 0)).toArray := rfl
theorem built_pf (f : Bool) (a : Option Addr) (n c : Nat) (bits : List UInt8) (h : bits.length = 32) (val : List UInt8) (sums : List (List UInt8)) :
    Try.prog.built 30 [(0, .bool f), (1, .slice a n c), (2, .agg (bits.map B).toArray)] = some (pfCells ⟨f, val, bits, sums⟩ (.slice a n c) (.slice none 0 0)).toArray := by
  match bits, h with
  | [x0, x1, x2, x3, x4, x5, x6, x7, x8, x9, x10, x11, x12, x13, x14, x15, x16, x17, x18, x19, x20, x21, x22, x23, x24, x25, x26, x27, x28, x29, x30, x31], _ =>
    show _ = _
    kernel_rfl
theorem run_build_pf (f : Bool) (a : Option Addr) (n c : Nat) (bits : List UInt8) (h : bits.length = 32) (val : List UInt8) (sums : List (List UInt8)) (w : World) :
    (Instr.build 30 #[(0, .bool f), (1, .slice a n c), (2, .agg (bits.map B).toArray)]).run Try.prog w = .ok (.agg (pfCells ⟨f, val, bits, sums⟩ (.slice a n c) (.slice none 0 0)).toArray) w :=
  run_build w _ _ _ (built_pf f a n c bits h val sums)
theorem results_pf {fn : Func} {tmps : Array Value} {w : World} {s b : Nat} {cs : List Value} (h : fn.results = #[.cell s 30]) (hv : tmps.getD s undef = .pointer (some ⟨b, 0, none⟩)) (hr : w.rangeAt b 0 cs) (hl : cs.length = 35) :
    (results fn tmps).run Try.prog w = .ok (.agg cs.toArray) w := by
  have h1 := run_loadVar_mid w b 0 30 cs _ hr Try.underlying30 rfl (by rw [size_proof, hl])
  simp only [Array.getD_eq_getD_getElem?] at hv
  simp [results, h, hv, h1, asAddr]
theorem pf_ones {p : Pf} {a1 a2 : Option Addr} {n1 c1 n2 c2 : Nat} : ∀ v ∈ pfCells p (.slice a1 n1 c1) (.slice a2 n2 c2), v.oneCell' = true := by
  intro v hv
  simp only [pfCells, List.mem_cons, List.mem_append, List.not_mem_nil, or_false] at hv
  rcases hv with rfl | rfl | hv | rfl
  · rfl
  · rfl
  · exact B_one _ v hv
  · rfl
/-- A slice of digests of one's own. -/
def OwnS (w : World) (v : Value) (l : List (List UInt8)) : Prop := w.ownsRow 0 45 32 v l.length (sumCells l)
theorem ownS_sums {w : World} {v : Value} {l : List (List UInt8)} (h : OwnS w v l) : SumsAt w v l := by
  rcases h.2 with ⟨rfl, h0⟩ | ⟨g, cap, cur, rfl, _, hh, h1, h2, h3, h4⟩
  · exact .inl ⟨List.eq_nil_of_length_eq_zero h0, none, 0, rfl, by simp [maxLen]⟩
  · refine .inr ⟨g, 0, cap, rfl, h1, h2, lt_of_heap hh, fun j u hj => ?_⟩
    rw [Nat.zero_add, cell_of_row w g j _ _ _ hh]
    rw [← h4, List.getElem?_take] at hj
    split at hj
    · simpa using hj
    · cases hj
theorem info_digest : (Try.prog.info? 45).map (fun i => (i.zero, i.size, i.bytes)) = some (some (.agg (Array.replicate 32 (.int .u8 0))), 32, 32) := by kernel_rfl
theorem ownB_slice {w : World} {v : Value} {l : List UInt8} (h : OwnB w v l) : ∃ a c, v = .slice a l.length c := by
  obtain ⟨a, c, h, _⟩ := (ownB_bytes h).form
  exact ⟨a, c, h⟩

theorem store_all {w : World} {b : Nat} {cs z : List Value} {t : TypeId} (h : w.heap[b]? = some (.cells z.toArray t (0, 0))) (hl : z.length = cs.length) : (w.setCells b 0 cs).heap[b]? = some (.cells cs.toArray t (0, 0)) := by
  have := heap_setCells_same b t cs 0 w z h (by omega)
  rw [this]
  simp [← hl]
theorem pf_set34 {p : Pf} (hb : p.bits.length = 32) (vv sv sv2 : Value) : (pfCells p vv sv).toArray.setIfInBounds 34 sv2 = (pfCells p vv sv2).toArray := by
  rw [List.setIfInBounds_toArray]
  congr 1
  unfold pfCells
  rw [List.set_cons_succ, List.set_cons_succ, List.set_append_right _ _ (by rw [List.length_map, hb]; exact Nat.le_refl _), List.length_map, hb]
  rfl
theorem owns_slice {w : World} {base : Nat} {e : TypeId} {size : Nat} {v : Value} {n : Nat} {xs : List Value} (h : w.ownsRow base e size v n xs) : ∃ a c, v = .slice a n c := by
  rcases h.2 with ⟨rfl, rfl⟩ | ⟨g, cap, cur, rfl, _⟩
  · exact ⟨_, _, rfl⟩
  · exact ⟨_, _, rfl⟩
theorem run_store_pf {w : World} {q : Nat} {z cs : List Value} (h : w.heap[q]? = some (.cells z.toArray 30 (0, 0))) (hz : z.length = 35) (hc : cs.length = 35) (h1 : ∀ v ∈ cs, v.oneCell' = true) :
    (Instr.storeAt 30 (.pointer (some ⟨q, 0, none⟩)) (.agg cs.toArray)).run Try.prog w = .ok () (w.setCells q 0 cs) := by
  have := run_storeAt_mid (P := Try.prog) w q 0 30 cs.toArray (there_all h 0 _ (by simp [hz, hc])) (by rw [size_proof]; simp [hc]) (all_oneCell_toArray h1)
  simpa using this

set_option maxRecDepth 100000 in
theorem copyProof_any {w : World} {v : Value} {p : Pf} (hp : PfIn w v p) (hl1 : p.val.length ≤ 2097152) (hl2 : p.sums.length ≤ 2097152) :
    Calls Try.prog 11 #[v] w fun e w' => ∃ v', e = .returned v' ∧ PfIn w' v' p ∧ Keeps [] w w' := by
  obtain ⟨vv, sv, rfl, hv, hs, hb, hd⟩ := hp
  obtain ⟨a1, c1, rfl, hc1, hm1⟩ := hv.form
  obtain ⟨a2, c2, rfl, hc2, hm2⟩ := hs.form
  unfold maxLen at hm1 hm2
  obtain ⟨C, hC⟩ : ∃ C, C = pfCells p (.slice a1 p.val.length c1) (.slice a2 p.sums.length c2) := ⟨_, rfl⟩
  rw [← hC]
  obtain ⟨Z, hZ⟩ : ∃ Z, Z = (pfCells ⟨false, [], List.replicate 32 0, []⟩ (.slice none 0 0) (.slice none 0 0)) := ⟨_, rfl⟩
  have hcl := fun (wx : World) (hx : wx.heap[w.heap.size]? = some (.cells C.toArray 30 (0, 0))) => And.intro (pf_cells (hC ▸ hx) hb) (pf_bits (hC ▸ hx) hb)
  have HCL := Lib.hid hcl
  have HV := Lib.hid hv
  have HS := Lib.hid hs
  have HB := Lib.hid hb
  have HD := Lib.hid hd
  have HZ := Lib.hid hZ
  have HS32 := Lib.hid (size_32_of hb)
  have hal := fun (w : World) => run_alloc (P := Try.prog) w info_proof
  rw [zProof_cells, ← hZ] at hal
  have HAL := Lib.hid hal
  clear hC hcl hv hs hb hd hZ hal
  go_enter Try.func11, Try.ntmps11
  go_wp2_with (refine wl_alloc rfl 30 rfl ?_; refine ⟨_, _, HAL.out _, ?_⟩; try simp only [Act.put, List.setIfInBounds_toArray, List.set_cons_zero, List.set_cons_succ, List.getElem_toArray, List.getElem_cons_zero, List.getElem_cons_succ])
  obtain ⟨w0, hw0⟩ : ∃ w0, w0 = (w.alloc (.cells C.toArray 30 (0, 0))).alloc (.cells Z.toArray 30 (0, 0)) := ⟨_, rfl⟩
  rw [← hw0, show (w.alloc (.cells C.toArray 30 (0, 0))).heap.size = w.heap.size + 1 from by simp]
  have K0 : Keeps [] w w0 := by rw [hw0]; exact ((Keeps.refl _ _).alloc _).alloc _
  have x1 : w0.heap[w.heap.size]? = some (.cells C.toArray 30 (0, 0)) := by rw [hw0, heap_old_at (by simp), heap_new_at rfl]
  have x2 : w0.heap[w.heap.size + 1]? = some (.cells Z.toArray 30 (0, 0)) := by rw [hw0, heap_new_at (by simp)]
  have y1 := lt_of_heap x1
  have y2 := lt_of_heap x2
  have X0 := Lib.hid (And.intro (And.intro x1 x2) K0)
  clear hw0 x1 x2 K0
  go_cut [3] from 5 to 12 (fun s wx => ∃ (q : Nat) (av : Option Addr) (cv : Nat), s = .pointer (some ⟨q, 0, none⟩) ∧ w0.heap.size ≤ q ∧ wx.heap[q]? = some (.cells (pfCells ⟨p.found, p.val, p.bits, []⟩ (.slice av p.val.length cv) (.slice none 0 0)).toArray 30 (0, 0)) ∧ OwnB wx (.slice av p.val.length cv) p.val ∧ (∀ j, (Value.slice av p.val.length cv).ownBlock = some j → w0.heap.size ≤ j ∧ j ≠ q) ∧ Keeps [] w0 wx)
  case first =>
    obtain ⟨⟨⟨e0, e1, e34⟩, r1⟩⟩ := And.intro (HCL.out w0 X0.out.1.1) trivial
    have ht : ∀ wx, Keeps [] w0 wx → (wx.cell? ⟨w.heap.size, 0, none⟩ = some (.bool p.found) ∧ wx.cell? ⟨w.heap.size, 1, none⟩ = some (Value.slice a1 p.val.length c1) ∧ wx.rangeAt w.heap.size 2 (p.bits.map B)) := fun wx hk => by
      obtain ⟨⟨e0, e1, _⟩, r1⟩ := HCL.out wx ((hk.block _ y1 (by simp)).trans X0.out.1.1)
      exact ⟨e0, e1, r1⟩
    have HT := Lib.hid ht
    have hzl : Z.length = 35 := by rw [HZ.out]; exact pf_length (by simp) _ _
    have HZL := Lib.hid hzl
    clear ht hzl
    refine wp_region_held_drew (S := (fun w' => (w'.cell? ⟨w.heap.size, 0, none⟩ = some (.bool p.found) ∧ w'.cell? ⟨w.heap.size, 1, none⟩ = some (Value.slice a1 p.val.length c1) ∧ w'.rangeAt w.heap.size 2 (p.bits.map B)) ∧ Keeps [] w0 w')) (by kernel_rfl) ?_ (fun hHeld => ?_)
    · exact ⟨⟨e0, e1, r1⟩, (Keeps.refl _ _).drew⟩
    refine' wpAnyH_take (i := 0) (v := _) rfl (by kernel_rfl) (by kernel_rfl) (by kernel_rfl) (fun _ _ _ h => h) (Or.inl ⟨by rfl, ?_⟩) (by assumption) ?_
    rotate_left 1
    · (intro w0 hSw; (try dsimp only at hSw); go_split_ands; go_simp; (try with_reducible rfl))
    try simp only [Act.put, List.setIfInBounds_toArray, List.set_cons_zero, List.set_cons_succ, List.getElem_toArray, List.getElem_cons_zero, List.getElem_cons_succ]
    refine' wpAnyH_take (i := 1) (v := _) rfl (by kernel_rfl) (by kernel_rfl) (by kernel_rfl) (fun _ _ _ h => h) (Or.inl ⟨by rfl, ?_⟩) (by assumption) ?_
    rotate_left 1
    · (intro w0 hSw; (try dsimp only at hSw); go_split_ands; go_simp; (try with_reducible rfl))
    try simp only [Act.put, List.setIfInBounds_toArray, List.set_cons_zero, List.set_cons_succ, List.getElem_toArray, List.getElem_cons_zero, List.getElem_cons_succ]
    refine' wpAnyH_take (i := 2) (v := _) rfl (by kernel_rfl) (by kernel_rfl) (by kernel_rfl) (fun _ _ _ h => h) (Or.inl ⟨by rfl, ?_⟩) (by assumption) ?_
    rotate_left 1
    · (intro w0 hSw; (try dsimp only at hSw); go_split_ands; go_simp; (try with_reducible rfl))
    try simp only [Act.put, List.setIfInBounds_toArray, List.set_cons_zero, List.set_cons_succ, List.getElem_toArray, List.getElem_cons_zero, List.getElem_cons_succ]
    refine' wpAnyH_take (i := 3) (v := _) rfl (by kernel_rfl) (by kernel_rfl) (by kernel_rfl) (fun _ _ _ h => h) (Or.inl ⟨by rfl, ?_⟩) (by assumption) ?_
    rotate_left 1
    · (intro w0 hSw; (try dsimp only at hSw); go_split_ands; go_simp; (try with_reducible rfl))
    try simp only [Act.put, List.setIfInBounds_toArray, List.set_cons_zero, List.set_cons_succ, List.getElem_toArray, List.getElem_cons_zero, List.getElem_cons_succ]
    refine' wpAnyH_take (i := 5) (v := _) rfl (by kernel_rfl) (by kernel_rfl) (by kernel_rfl) (fun _ _ _ h => h) (Or.inl ⟨by rfl, ?_⟩) (by assumption) ?_
    rotate_left 1
    · (intro w0 hSw; (try dsimp only at hSw); go_split_ands; go_simp; (try with_reducible rfl))
    try simp only [Act.put, List.setIfInBounds_toArray, List.set_cons_zero, List.set_cons_succ, List.getElem_toArray, List.getElem_cons_zero, List.getElem_cons_succ]
    refine' wpAnyH_take (i := 6) (v := _) rfl (by kernel_rfl) (by kernel_rfl) (by kernel_rfl) (fun _ _ _ h => h) (yieldsIf_load_mid (by rfl) 27 (.tmp 10) rfl w.heap.size 2 rfl (p.bits.map B) _ (fun _ h => h.1.2.2) Try.underlying27 rfl HS32.out) (by assumption) ?_
    try simp only [Act.put, List.setIfInBounds_toArray, List.set_cons_zero, List.set_cons_succ, List.getElem_toArray, List.getElem_cons_zero, List.getElem_cons_succ]
    refine wpAnyH_ready (rs := [4, 8]) (by kernel_rfl) (by simp) ?_
    refine AllReadyH.cons rfl (fun K hK => ?_) (AllReadyH.cons rfl (fun K hK => ?_) AllReadyH.nil)
    · go_simp
      refine (copyBytes_any (w := w0.drew) (HV.out.keeps (X0.out.2.drew) (by simp)) hl1).mono ?_
      rintro e w1 ⟨v', rfl, hO, hfr, hk⟩
      obtain ⟨av, cv, rfl⟩ := ownB_slice hO
      have hk01 : Keeps [] w0 w1 := ((Keeps.refl [] w0).drew).trans (G := []) hk (by simp)
      refine hK.out _ _ ?_ (fun hHeld => ?_)
      · exact ⟨HT.out w1 hk01, hk01⟩
      clear hK K
      try simp only [Act.put, List.setIfInBounds_toArray, List.set_cons_zero, List.set_cons_succ, List.getElem_toArray, List.getElem_cons_zero, List.getElem_cons_succ]
      refine' wpAnyH_take (i := 7) (v := _) rfl (by kernel_rfl) (by kernel_rfl) (by kernel_rfl) (fun _ _ _ h => h) (yieldsIf_build (by rfl) 30 _ _ rfl (by simp [Act.eval]) (run_build_pf p.found av p.val.length cv p.bits HB.out p.val [])) (by assumption) ?_
      try simp only [Act.put, List.setIfInBounds_toArray, List.set_cons_zero, List.set_cons_succ, List.getElem_toArray, List.getElem_cons_zero, List.getElem_cons_succ]
      refine wpAnyH_ready (rs := [8]) (by kernel_rfl) (by simp) ?_
      refine AllReadyH.cons rfl (fun K hK => ?_) AllReadyH.nil
      (refine st_alloc rfl 30 rfl ?_; refine ⟨_, _, HAL.out _, ?_⟩; try simp only [Act.put, List.setIfInBounds_toArray, List.set_cons_zero, List.set_cons_succ, List.getElem_toArray, List.getElem_cons_zero, List.getElem_cons_succ])
      refine hK.out _ _ ?_ (fun hHeld => ?_)
      · exact ⟨HT.out _ (hk01.alloc _), hk01.alloc _⟩
      clear hK K
      try simp only [Act.put, List.setIfInBounds_toArray, List.set_cons_zero, List.set_cons_succ, List.getElem_toArray, List.getElem_cons_zero, List.getElem_cons_succ]
      have hs1 := run_store_pf (cs := pfCells ⟨p.found, p.val, p.bits, []⟩ (.slice av p.val.length cv) (.slice none 0 0)) (heap_new_at (w := w1) (o := .cells Z.toArray 30 (0, 0)) rfl) HZL.out (pf_length HB.out _ _) pf_ones
      have HS1 := Lib.hid hs1
      clear hs1
      refine wpAnyH_ready (rs := [9]) (by kernel_rfl) (by simp) ?_
      refine AllReadyH.cons rfl (fun K hK => ?_) AllReadyH.nil
      (refine st_store rfl 30 (.tmp 3) (.tmp 12) rfl ?_; refine ⟨_, HS1.out, ?_⟩; try simp only [Act.put, List.setIfInBounds_toArray, List.set_cons_zero, List.set_cons_succ, List.getElem_toArray, List.getElem_cons_zero, List.getElem_cons_succ])
      have hk02 := (hk01.alloc (.cells Z.toArray 30 (0, 0))).setCells (b := w1.heap.size) (.inr hk01.size) 0 (pfCells ⟨p.found, p.val, p.bits, []⟩ (.slice av p.val.length cv) (.slice none 0 0))
      refine hK.out _ _ ?_ (fun hHeld => ?_)
      · exact ⟨HT.out _ hk02, hk02⟩
      clear hK K
      try simp only [Act.put, List.setIfInBounds_toArray, List.set_cons_zero, List.set_cons_succ, List.getElem_toArray, List.getElem_cons_zero, List.getElem_cons_succ]
      refine wpAnyH_done (by kernel_rfl) ?_ _
      go_wp2_with fail
      go_meet
      case rel =>
        refine ⟨w1.heap.size, av, cv, rfl, hk01.size, store_all (heap_new_at rfl) (HZL.out.trans (pf_length HB.out _ _).symm), ?_, ?_, hk02⟩
        · exact ownsRow_keep hO (fun j hj => by
            have := (World.ownsRow.lt hO j hj).2
            rw [heap_setCells_other _ _ _ (by omega), heap_old_at this])
        · intro j hj
          have h1 := (World.ownsRow.lt hO _ hj).2
          have h2 := hfr j hj
          exact ⟨h2, by omega⟩
    · have hk01 : Keeps [] w0 (w0.drew.alloc (.cells Z.toArray 30 (0, 0))) := ((Keeps.refl [] w0).drew).alloc _
      (refine st_alloc rfl 30 rfl ?_; refine ⟨_, _, HAL.out _, ?_⟩; try simp only [Act.put, List.setIfInBounds_toArray, List.set_cons_zero, List.set_cons_succ, List.getElem_toArray, List.getElem_cons_zero, List.getElem_cons_succ])
      refine hK.out _ _ ?_ (fun hHeld => ?_)
      · exact ⟨HT.out _ hk01, hk01⟩
      clear hK K
      try simp only [Act.put, List.setIfInBounds_toArray, List.set_cons_zero, List.set_cons_succ, List.getElem_toArray, List.getElem_cons_zero, List.getElem_cons_succ]
      refine wpAnyH_ready (rs := [4]) (by kernel_rfl) (by simp) ?_
      refine AllReadyH.cons rfl (fun K hK => ?_) AllReadyH.nil
      go_simp
      refine (copyBytes_any (HV.out.keeps (X0.out.2.trans (G := []) hk01 (by simp)) (by simp)) hl1).mono ?_
      rintro e w1 ⟨v', rfl, hO, hfr, hk⟩
      obtain ⟨av, cv, rfl⟩ := ownB_slice hO
      have hk02 := hk01.trans (G := []) hk (by simp)
      have hq : w1.heap[w0.heap.size]? = some (.cells Z.toArray 30 (0, 0)) := (hk.block _ (by simp) (by simp)).trans (heap_new_at rfl)
      have hne : ∀ j, (Value.slice av p.val.length cv).ownBlock = some j → w0.heap.size < j := fun j hj => by have := hfr j hj; simp at this; omega
      have HQ := Lib.hid hq
      have HNE := Lib.hid hne
      clear hq hne hfr
      refine hK.out _ _ ?_ (fun hHeld => ?_)
      · exact ⟨HT.out _ hk02, hk02⟩
      clear hK K
      try simp only [Act.put, List.setIfInBounds_toArray, List.set_cons_zero, List.set_cons_succ, List.getElem_toArray, List.getElem_cons_zero, List.getElem_cons_succ]
      refine' wpAnyH_take (i := 7) (v := _) rfl (by kernel_rfl) (by kernel_rfl) (by kernel_rfl) (fun _ _ _ h => h) (yieldsIf_build (by rfl) 30 _ _ rfl (by simp [Act.eval]) (run_build_pf p.found av p.val.length cv p.bits HB.out p.val [])) (by assumption) ?_
      try simp only [Act.put, List.setIfInBounds_toArray, List.set_cons_zero, List.set_cons_succ, List.getElem_toArray, List.getElem_cons_zero, List.getElem_cons_succ]
      have hs1 := run_store_pf (cs := pfCells ⟨p.found, p.val, p.bits, []⟩ (.slice av p.val.length cv) (.slice none 0 0)) HQ.out HZL.out (pf_length HB.out _ _) pf_ones
      have HS1 := Lib.hid hs1
      clear hs1
      refine wpAnyH_ready (rs := [9]) (by kernel_rfl) (by simp) ?_
      refine AllReadyH.cons rfl (fun K hK => ?_) AllReadyH.nil
      (refine st_store rfl 30 (.tmp 3) (.tmp 12) rfl ?_; refine ⟨_, HS1.out, ?_⟩; try simp only [Act.put, List.setIfInBounds_toArray, List.set_cons_zero, List.set_cons_succ, List.getElem_toArray, List.getElem_cons_zero, List.getElem_cons_succ])
      have hk03 := hk02.setCells (b := w0.heap.size) (.inr (Nat.le_refl _)) 0 (pfCells ⟨p.found, p.val, p.bits, []⟩ (.slice av p.val.length cv) (.slice none 0 0))
      refine hK.out _ _ ?_ (fun hHeld => ?_)
      · exact ⟨HT.out _ hk03, hk03⟩
      clear hK K
      try simp only [Act.put, List.setIfInBounds_toArray, List.set_cons_zero, List.set_cons_succ, List.getElem_toArray, List.getElem_cons_zero, List.getElem_cons_succ]
      refine wpAnyH_done (by kernel_rfl) ?_ _
      go_wp2_with fail
      go_meet
      case rel =>
        refine ⟨w0.heap.size, av, cv, rfl, Nat.le_refl _, store_all HQ.out (HZL.out.trans (pf_length HB.out _ _).symm), ?_, ?_, hk03⟩
        · exact ownsRow_keep hO (fun j hj => by
            have := HNE.out j hj
            rw [heap_setCells_other _ _ _ (by omega)])
        · intro j hj
          have := HNE.out _ hj
          exact ⟨by omega, by omega⟩
  case rest =>
    obtain ⟨q, av, cv, rfl, hq0, hq1, hO, hne, hkc⟩ := hcut
    have hwq : w.heap.size ≠ q := by omega
    have hq34 := (pf_cells hq1 HB.out).2.2
    have hkw : Keeps [] w wc := X0.out.2.trans (G := []) hkc (by simp)
    have HQ1 := Lib.hid hq1
    have HO := Lib.hid hO
    have HNE := Lib.hid hne
    have y3 := lt_of_heap hq1
    have hbx := (hkc.block _ y1 (by simp)).trans X0.out.1.1
    have hbz := (hkc.block _ y2 (by simp)).trans X0.out.1.2
    have HBX := Lib.hid hbx
    have HBZ := Lib.hid hbz
    have hsc := hkw.size
    clear hq1 hO hne hq34 hbx hbz
    go_wp2_with fail
    go_loopw [4] (fun i wr => ∃ (k : Nat) (sv' : Value), k ≤ p.sums.length ∧ i = .int .i64 k ∧ wr.ownsRow wc.heap.size 45 32 sv' k (sumCells (p.sums.take k)) ∧ wr.heap[q]? = some (.cells (pfCells ⟨p.found, p.val, p.bits, []⟩ (.slice av p.val.length cv) sv').toArray 30 (0, 0)) ∧ Keeps [q] wc wr) (fun i _ => p.sums.length - (intOf i).toNat)
    case atStart => exact ⟨0, .slice none 0 0, Nat.zero_le _, rfl, World.ownsRow_nil _ _ _ _, HQ1.out, Keeps.refl _ _⟩
    case round =>
      obtain ⟨k, sv', hk, rfl, hown, hqr, hkr⟩ := hrel
      have hov := hown.lt
      have hbr := (hkr.block _ (show w.heap.size < wc.heap.size by omega) (by simp; omega)).trans HBX.out
      obtain ⟨⟨e0, e1, e34⟩, r1⟩ := HCL.out wr hbr
      have q34 := (pf_cells hqr HB.out).2.2
      have HQR := Lib.hid hqr
      have HBR := Lib.hid hbr
      have HOWN := Lib.hid hown
      have hsz := hkr.size
      clear hqr hbr hown e0 e1 r1
      by_cases hlt : k < p.sums.length
      · obtain ⟨g2, o2, rfl, hg2, hr2⟩ := HS.out.at (by omega)
        have q2 := SumsAt.row hr2 HD.out hlt (((hkr.block g2 (by omega) (by simp; omega)).trans (hkw.block g2 hg2 (by simp))))
        have hl := HD.out _ (List.getElem_mem hlt)
        have hsd := size_digest_of hl
        obtain ⟨x, hx⟩ : ∃ x, x = p.sums[k] := ⟨_, rfl⟩
        rw [← hx] at q2 hl hsd
        have b0 : (0 : Int) ≤ (k : Int) := by omega
        have b1 : (k : Int) < (p.sums.length : Int) := by omega
        have hovq : sv'.ownBlock ≠ some q := fun e => by have := (hov q e).1; omega
        have hqz : q < wr.heap.size := by omega
        have hwz : w.heap.size < wr.heap.size := by omega
        have hgz : g2 < wr.heap.size := by omega
        have Q2 := Lib.hid q2
        have HSD := Lib.hid hsd
        have HXX := Lib.hid hx
        have HLX := Lib.hid hl
        clear q2 hr2 hx hl hsd
        go_wp2_with fail
        refine rl_start (fun w' => (w'.cell? ⟨q, 34, none⟩ = some sv' ∧ w'.cell? ⟨w.heap.size, 34, none⟩ = some (Value.slice (some ⟨g2, o2, none⟩) p.sums.length c2)) ∧ w'.rangeAt g2 (o2 + k * 32) (x.map B)) 10 (by kernel_rfl) ?_ (fun hHeld => ?_)
        · exact ⟨⟨q34, e34⟩, Q2.out⟩
        refine' rl_take (i := 0) (v := _) rfl (by kernel_rfl) (by kernel_rfl) (by kernel_rfl) (by kernel_rfl) (fun _ _ _ h => h) (Or.inl ⟨by rfl, ?_⟩) (by assumption) ?_
        rotate_left 1
        · (intro w0 hSw; (try dsimp only at hSw); go_split_ands; go_simp; (try with_reducible rfl))
        try simp only [Act.put, List.setIfInBounds_toArray, List.set_cons_zero, List.set_cons_succ, List.getElem_toArray, List.getElem_cons_zero, List.getElem_cons_succ]
        refine' rl_take (i := 1) (v := _) rfl (by kernel_rfl) (by kernel_rfl) (by kernel_rfl) (by kernel_rfl) (fun _ _ _ h => h) (Or.inl ⟨by rfl, ?_⟩) (by assumption) ?_
        rotate_left 1
        · (intro w0 hSw; (try dsimp only at hSw); go_split_ands; go_simp; (try with_reducible rfl))
        try simp only [Act.put, List.setIfInBounds_toArray, List.set_cons_zero, List.set_cons_succ, List.getElem_toArray, List.getElem_cons_zero, List.getElem_cons_succ]
        refine' rl_take (i := 2) (v := _) rfl (by kernel_rfl) (by kernel_rfl) (by kernel_rfl) (by kernel_rfl) (fun _ _ _ h => h) (Or.inl ⟨by rfl, ?_⟩) (by assumption) ?_
        rotate_left 1
        · (intro w0 hSw; (try dsimp only at hSw); go_split_ands; go_simp; (try with_reducible rfl))
        try simp only [Act.put, List.setIfInBounds_toArray, List.set_cons_zero, List.set_cons_succ, List.getElem_toArray, List.getElem_cons_zero, List.getElem_cons_succ]
        refine' rl_take (i := 3) (v := _) rfl (by kernel_rfl) (by kernel_rfl) (by kernel_rfl) (by kernel_rfl) (fun _ _ _ h => h) (Or.inl ⟨by rfl, ?_⟩) (by assumption) ?_
        rotate_left 1
        · (intro w0 hSw; (try dsimp only at hSw); go_split_ands; go_simp; (try with_reducible rfl))
        try simp only [Act.put, List.setIfInBounds_toArray, List.set_cons_zero, List.set_cons_succ, List.getElem_toArray, List.getElem_cons_zero, List.getElem_cons_succ]
        refine' rl_take (i := 4) (v := _) rfl (by kernel_rfl) (by kernel_rfl) (by kernel_rfl) (by kernel_rfl) (fun _ _ _ h => h) (Or.inl ⟨by rfl, ?_⟩) (by assumption) ?_
        rotate_left 1
        · (intro w0 hSw; (try dsimp only at hSw); go_split_ands; go_simp; (try with_reducible rfl))
        try simp only [Act.put, List.setIfInBounds_toArray, List.set_cons_zero, List.set_cons_succ, List.getElem_toArray, List.getElem_cons_zero, List.getElem_cons_succ]
        refine' rl_take (i := 5) (v := _) rfl (by kernel_rfl) (by kernel_rfl) (by kernel_rfl) (by kernel_rfl) (fun _ _ _ h => h) (Or.inl ⟨by rfl, ?_⟩) (by assumption) ?_
        rotate_left 1
        · (intro w0 hSw; (try dsimp only at hSw); go_split_ands; go_simp; (try with_reducible rfl))
        try simp only [Act.put, List.setIfInBounds_toArray, List.set_cons_zero, List.set_cons_succ, List.getElem_toArray, List.getElem_cons_zero, List.getElem_cons_succ]
        refine' rl_take (i := 6) (v := _) rfl (by kernel_rfl) (by kernel_rfl) (by kernel_rfl) (by kernel_rfl) (fun _ _ _ h => h) (yieldsIf_load_mid (by rfl) 45 (.tmp 25) rfl g2 (o2 + k * 32) rfl (x.map B) _ (fun _ h => h.2) Try.underlying45 rfl HSD.out) (by assumption) ?_
        try simp only [Act.put, List.setIfInBounds_toArray, List.set_cons_zero, List.set_cons_succ, List.getElem_toArray, List.getElem_cons_zero, List.getElem_cons_succ]
        refine rl_act (i := 7) (by kernel_rfl) rfl (fun K hK => ?_)
        (refine st_buildSlice rfl 28 1 #[(0, .tmp 26)] #[(0, .agg (x.map B).toArray)] rfl (by simp [Act.eval]) ?_; refine ⟨_, _, run_buildSlice_one _ Try.underlying28 info_digest (cs := (x.map B).toArray) (by simpa using HLX.out) (by omega) (by omega), ?_⟩; try simp only [Act.put, List.setIfInBounds_toArray, List.set_cons_zero, List.set_cons_succ, List.getElem_toArray, List.getElem_cons_zero, List.getElem_cons_succ])
        refine hK.out _ _ ?_ (fun hHeld => ?_)
        · exact ⟨⟨(World.cell?_of_block (a := ⟨q, 34, none⟩) (heap_old_at hqz)).trans q34, (World.cell?_of_block (a := ⟨w.heap.size, 34, none⟩) (heap_old_at hwz)).trans e34⟩, rangeAt_of_heap Q2.out (heap_old_at hgz)⟩
        clear hK K
        try simp only [Act.put, List.setIfInBounds_toArray, List.set_cons_zero, List.set_cons_succ, List.getElem_toArray, List.getElem_cons_zero, List.getElem_cons_succ]
        refine rl_act (i := 8) (by kernel_rfl) rfl (fun K hK => ?_)
        obtain ⟨i0, hi0, hz0, hz1, hz2⟩ := info_parts info_digest
        have l1 := (show wr.drew.ownsRow _ _ _ _ _ _ from HOWN.out).alloc (.cells (x.map B).toArray 45 (0, 0))
        have l2 : ∀ j u, (x.map B)[j]? = some u → (wr.drew.alloc (.cells (x.map B).toArray 45 (0, 0))).cell? ((⟨wr.heap.size, 0, none⟩ : Addr).add j) = some u := World.news_of_block (cs := (x.map B).toArray) (t := 45) (fr := (0, 0)) (heap_new_at rfl)
        have l4 : (x.map B).length = 1 * 32 := by rw [List.length_map, HLX.out]
        have l5 : (wr.drew.alloc (.cells (x.map B).toArray 45 (0, 0))).heap.size = wr.heap.size + 1 := by simp
        refine step_append_lies _ rfl (.tmp 21) (.tmp 27) 28 rfl wc.heap.size 45 i0 (.agg (Array.replicate 32 (.int .u8 0))) 32 32 Try.underlying28 hi0 hz0 hz1 hz2 (by simp [Value.cells]) (by omega) sv' k (sumCells (p.sums.take k)) (by rfl) l1 ⟨wr.heap.size, 0, none⟩ 1 1 (x.map B) (by rfl) l4 l2 (B_one x) (by omega) (by simp only [maxLen]; omega) (by omega) (by omega) (wr.heap.size + 1) l5 ?_
        intro gq cap wn h1 h2 h3 h4
        have far : ∀ j, j < wr.heap.size → sv'.ownBlock ≠ some j → wn.heap[j]? = wr.heap[j]? := fun j hj hne => by
          rw [h2.block j (by simp; omega) (fun e => hne e.symm)]
          exact heap_old_at hj
        have fq := far q hqz hovq
        have fw := far w.heap.size hwz (fun e => by have := (hov _ e).1; omega)
        have fg := far g2 hgz (fun e => by have := (hov _ e).1; omega)
        have q34n := (World.cell?_of_block (a := ⟨q, 34, none⟩) fq).trans q34
        have hqn := frozen_of_row wn q 34 _ _ (fq.trans HQR.out)
        have H1 := Lib.hid h1
        have H2 := Lib.hid h2
        have FW := Lib.hid fw
        have FG := Lib.hid fg
        have FQ := Lib.hid fq
        have hkn := ((hkr.drew).alloc (.cells (x.map B).toArray 45 (0, 0))).grown h2 (fun j hj => .inr (hov j hj).1)
        clear h1 h2 fw fg fq far l1 l2 l4 l5 h3
        refine hK.out _ _ ?_ (fun hHeld => ?_)
        · exact ⟨⟨q34n, (World.cell?_of_block (a := ⟨w.heap.size, 34, none⟩) FW.out).trans e34⟩, rangeAt_of_heap Q2.out FG.out⟩
        clear hK K
        try simp only [Act.put, List.setIfInBounds_toArray, List.set_cons_zero, List.set_cons_succ, List.getElem_toArray, List.getElem_cons_zero, List.getElem_cons_succ]
        refine' rl_take (i := 9) (v := _) rfl (by kernel_rfl) (by kernel_rfl) (by kernel_rfl) (by kernel_rfl) (fun _ _ _ h => h) (Or.inl ⟨by rfl, ?_⟩) (by assumption) ?_
        rotate_left 1
        · (intro w0 hSw; (try dsimp only at hSw); go_split_ands; go_simp; (try with_reducible rfl))
        try simp only [Act.put, List.setIfInBounds_toArray, List.set_cons_zero, List.set_cons_succ, List.getElem_toArray, List.getElem_cons_zero, List.getElem_cons_succ]
        refine rl_last (by kernel_rfl) (by kernel_rfl) rfl (fun K hK => ?_)
        go_simp
        refine hK.out _ _ ?_
        clear hK K
        try simp only [Act.put, List.setIfInBounds_toArray, List.set_cons_zero, List.set_cons_succ, List.getElem_toArray, List.getElem_cons_zero, List.getElem_cons_succ]
        go_wp2_with fail
        go_roundw
        case rel =>
          refine ⟨k + 1, .slice (some ⟨gq, 0, none⟩) (k + 1) cap, by omega, by go_num, ?_, ?_, hkn.setCell (.inl (by simp)) _⟩
          · have e : sumCells (p.sums.take (k + 1)) = sumCells (p.sums.take k) ++ x.map B := by
              rw [List.take_succ_eq_append_getElem hlt, ← HXX.out]
              simp [sumCells]
            rw [e]
            refine ownsRow_keep H1.out (fun j hj => Below.heap_setCell _ _ _ _ ?_)
            have := (World.ownsRow.lt H1.out j hj).1
            simp
            omega
          · have h := heap_setCell_same wn q 34 _ _ (.slice (some ⟨gq, 0, none⟩) (k + 1) cap) (FQ.out.trans HQR.out)
            rw [pf_set34 (p := ⟨p.found, p.val, p.bits, []⟩) HB.out] at h
            exact h
        case measure => simp [intOf]; omega
      · have e : k = p.sums.length := by omega
        subst e
        obtain ⟨a3, c3, rfl⟩ := owns_slice HOWN.out
        obtain ⟨R, hR⟩ : ∃ R, R = pfCells ⟨p.found, p.val, p.bits, []⟩ (.slice av p.val.length cv) (.slice a3 p.sums.length c3) := ⟨_, rfl⟩
        have hRl : R.length = 35 := by rw [hR]; exact pf_length HB.out _ _
        have hR1 : ∀ v ∈ R, v.oneCell' = true := by rw [hR]; exact pf_ones
        have hqr := HQR.out
        rw [← hR] at hqr
        have hbz := (hkr.block _ (show w.heap.size + 1 < wc.heap.size by omega) (by simp; omega)).trans HBZ.out
        have hzl : Z.length = 35 := by rw [HZ.out]; exact pf_length (by simp) _ _
        have hst := run_store_pf hbz hzl hRl hR1
        have hall := store_all (cs := R) hbz (by omega)
        have hrr := rangeAt_all hqr
        have hsr : (Try.prog.info? 30).map (·.size) = some R.length := by rw [size_proof, hRl]
        have HR := Lib.hid hR
        have HQ2 := Lib.hid hqr
        have HST := Lib.hid hst
        have HALL := Lib.hid hall
        have HRR := Lib.hid hrr
        have HSR := Lib.hid hsr
        have HRL := Lib.hid hRl
        clear hR hRl hR1 hqr hbz hzl hst hall hrr hsr q34
        go_wp2_with (first | (refine wpList_load_mid rfl 30 (.tmp 3) rfl q 0 (by rfl) R _ HRR.out Try.underlying30 rfl HSR.out ?_) | (refine wl_store rfl 30 (.tmp 2) (.tmp 30) rfl ?_; refine ⟨_, HST.out, ?_⟩; try simp only [Act.put, List.setIfInBounds_toArray, List.set_cons_zero, List.set_cons_succ, List.getElem_toArray, List.getElem_cons_zero, List.getElem_cons_succ]))
        refine bodyPost_ret (v := .agg R.toArray) (results_pf (b := w.heap.size + 1) rfl rfl (rangeAt_all HALL.out) HRL.out) rfl ⟨_, rfl, ?_, ?_⟩
        · refine ⟨_, _, by rw [HR.out]; rfl, ?_, ?_, HB.out, HD.out⟩
          · refine ownB_bytes (ownsRow_keep HO.out (fun j hj => ?_))
            obtain ⟨n1, n2⟩ := HNE.out j hj
            rw [heap_setCells_other _ _ _ (by omega)]
            exact hkr.block j (World.ownsRow.lt HO.out j hj).2 (by simp; omega)
          · have h := HOWN.out
            rw [List.take_length] at h
            refine ownS_sums (ownsRow_keep (ownsRow_base h) (fun j hj => ?_))
            have := (hov j hj).1
            rw [heap_setCells_other _ _ _ (by omega)]
        · have hk1 := (hkw.trans hkr (G := [q]) (fun j hj => .inr (by simp at hj; omega))).mono (G := []) (fun j hj => .inl hj)
          exact hk1.setCells (.inr (by omega)) 0 R
end Go.Proofs.Ytnobhfpjchofpaa
