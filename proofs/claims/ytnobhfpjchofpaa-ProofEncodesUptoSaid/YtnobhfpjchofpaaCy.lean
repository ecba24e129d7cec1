/-
  Layer 12's law: encoded.
-/
import Derived.Test.YtnobhfpjchofpaaCr
import Derived.Test.YtnobhfpjchofpaaCn
import Derived.Test.YtnobhfpjchofpaaCo
namespace Go.Proofs.Ytnobhfpjchofpaa
set_option linter.unusedVariables false
set_option linter.unusedSimpArgs false
open Go.RowKit

theorem refEncode_yes {w : World} {v : Value} {p : Pf} (hp : PfIn w v p) (hw : p.well = true) :
    Calls Try.prog 24 #[v] w fun e w' => ∃ rv, e = .returned (.tuple #[rv, .int .i64 0]) ∧ OwnB w' rv p.enc ∧ Keeps [] w w' := by
  cases hf : p.found with
  | true => exact refEncode_found hp hw hf
  | false => exact refEncode_absent hp hw hf
theorem sums_front {w : World} {a : Option Addr} {cap n : Nat} {l : List (List UInt8)} (h : SumsAt w (.slice a l.length cap) l) (hd : ∀ s ∈ l, s.length = 32) (hn : n ≤ l.length) : SumsAt w (.slice a n cap) (l.take n) := by
  have hl : (l.take n).length = n := by rw [List.length_take]; omega
  rcases h with ⟨rfl, a', c', hv, hc⟩ | ⟨g, o, c', hv, h1, h2, h3, h4⟩
  · simp at hn
    subst hn
    injection hv with _ _ e3
    subst e3
    exact .inl ⟨rfl, _, _, rfl, hc⟩
  · injection hv with e _ e3
    subst e e3
    refine .inr ⟨g, o, cap, by rw [hl], by omega, h2, h3, fun j u hu => h4 j u ?_⟩
    have e : sumCells l = sumCells (l.take n) ++ sumCells (l.drop n) := by
      unfold sumCells
      rw [← List.flatMap_append, List.take_append_drop]
    rw [e, List.getElem?_append_left (List.getElem?_eq_some_iff.1 hu).1]
    exact hu
theorem run_slice_digests (w : World) (a : Option Addr) (len cap n : Nat) (hn : n ≤ cap) :
    (Instr.sliceAt 28 (.slice a len cap) none (some (.int .i64 n)) none).run Try.prog w = .ok (.slice a n cap) w := by
  have h0 : (0 : Int) ≤ (n : Int) := by omega
  have h1 : (n : Int) ≤ (cap : Int) := by omega
  obtain ⟨i, hi, _, h2, _⟩ := info_parts info_digest
  simp [Instr.sliceAt, Instr.slice, run_underlying Try.underlying28, Instr.sliceBounds, run_sliceBound, h0, h1, sizeOf, typeInfo, hi, add0, Result.andThen]
  try (intro _; cases a <;> simp [add0])
/-- What Encode and the document's tell alike. -/
theorem enc_both (p : Pf) : ∃ (l : List UInt8) (code : Int), (∀ (w : World) (v : Value), PfIn w v p → Calls Try.prog 10 #[v] w fun e w' => ∃ rv, e = .returned (.tuple #[rv, .int .i64 code]) ∧ BytesAt w' rv l ∧ Keeps [] w w') ∧
    (∀ (w : World) (v : Value), PfIn w v p → Calls Try.prog 24 #[v] w fun e w' => ∃ rv, e = .returned (.tuple #[rv, .int .i64 code]) ∧ BytesAt w' rv l ∧ Keeps [] w w') := by
  by_cases hw : p.well = true
  · exact ⟨p.enc, 0, fun w v h => (encode_yes h hw).mono fun e w' ⟨rv, a, b, _, c⟩ => ⟨rv, a, ownB_bytes b, c⟩, fun w v h => (refEncode_yes h hw).mono fun e w' ⟨rv, a, b, c⟩ => ⟨rv, a, ownB_bytes b, c⟩⟩
  · have hf := Bool.eq_false_iff.2 hw
    exact ⟨[], 120, fun w v h => (encode_no h hf).mono fun e w' ⟨a, c⟩ => ⟨_, a, BytesAt_nil _, c⟩, fun w v h => (refEncode_no h hf).mono fun e w' ⟨a, c⟩ => ⟨_, a, BytesAt_nil _, c⟩⟩


set_option maxRecDepth 100000 in
set_option maxHeartbeats 3200000 in
theorem encoded_any {w : World} {v : Value} {p : Pf} (h1 : PfIn w v p) (l1 : p.val.length ≤ 2097152) (l2 : p.sums.length ≤ 2097152) (nv ns : Nat) (hnv : nv ≤ p.val.length) (hns : ns ≤ p.sums.length) :
    Calls Try.prog 18 #[v, .int .i64 nv, .int .i64 ns] w fun e w' => e = .returned (.bool true) ∧ Keeps [] w w' := by
  obtain ⟨vv, sv, hveq, hv, hs, hb, hd⟩ := id h1
  obtain ⟨a1, c1, rfl, hc1, hm1⟩ := hv.form
  obtain ⟨a2, c2, rfl, hc2, hm2⟩ := hs.form
  unfold maxLen at hm1 hm2
  obtain ⟨C, hC⟩ : ∃ C, C = pfCells p (.slice a1 p.val.length c1) (.slice a2 p.sums.length c2) := ⟨_, rfl⟩
  rw [← hC] at hveq
  subst hveq
  have hCl : C.length = 35 := by rw [hC]; exact pf_length hb _ _
  have hC1 : ∀ u ∈ C, u.oneCell' = true := by rw [hC]; exact pf_ones
  obtain ⟨Z, hZ⟩ : ∃ Z, Z = (pfCells pf0 (.slice none 0 0) (.slice none 0 0)) := ⟨_, rfl⟩
  have hal := fun (w : World) => run_alloc (P := Try.prog) w info_proof
  rw [zProof_cells, show (⟨false, [], List.replicate 32 0, []⟩ : Pf) = pf0 from rfl, ← hZ] at hal
  have hzl : Z.length = 35 := by rw [hZ]; exact pf_length (by simp [pf0, zero32]) _ _
  obtain ⟨wa, hwa⟩ : ∃ wa, wa = w.alloc (.cells C.toArray 30 (0, 0)) := ⟨_, rfl⟩
  have hbx : wa.heap[w.heap.size]? = some (.cells C.toArray 30 (0, 0)) := by rw [hwa, heap_new_at rfl]
  have ka : Keeps [] w wa := by rw [hwa]; exact (Keeps.refl _ _).alloc _
  have y0 := lt_of_heap hbx
  obtain ⟨hst, hhp, hkv⟩ := pf_var (w := wa) hCl hC1 hzl
  obtain ⟨b, hbq⟩ : ∃ b, b = wa.heap.size := ⟨_, rfl⟩
  obtain ⟨wb, hwb⟩ : ∃ wb, wb = (wa.alloc (.cells Z.toArray 30 (0, 0))).setCells wa.heap.size 0 C := ⟨_, rfl⟩
  rw [← hwb] at hst hhp hkv
  obtain ⟨D, hD⟩ : ∃ D, D = pfCells ⟨p.found, p.val.take nv, p.bits, p.sums.take ns⟩ (.slice a1 nv c1) (.slice a2 ns c2) := ⟨_, rfl⟩
  obtain ⟨wd, hwd⟩ : ∃ wd, wd = (wb.setCell ⟨wa.heap.size, 1, none⟩ (.slice a1 nv c1)).setCell ⟨wa.heap.size, 34, none⟩ (.slice a2 ns c2) := ⟨_, rfl⟩
  have hpd : wd.heap[wa.heap.size]? = some (.cells D.toArray 30 (0, 0)) := by
    have hh := hhp
    rw [hC] at hh
    have e1 := heap_setCell_same wb wa.heap.size 1 _ _ (.slice a1 nv c1) hh
    rw [pf_set1 _ _ _ _ (p.val.take nv)] at e1
    have e2 := heap_setCell_same _ wa.heap.size 34 _ _ (.slice a2 ns c2) e1
    rw [pf_set34 (p := ⟨p.found, p.val.take nv, p.bits, p.sums⟩) hb] at e2
    rw [hwd, hD]
    exact e2
  have kad : Keeps [] wa wd := by rw [hwd]; exact (hkv.setCell (.inr (Nat.le_refl _)) _).setCell (.inr (Nat.le_refl _)) _
  have hQ : ∀ wx, Keeps [] w wx → PfIn wx (.agg D.toArray) ⟨p.found, p.val.take nv, p.bits, p.sums.take ns⟩ := fun wx hk =>
    ⟨_, _, by rw [hD], (bytes_front2 hv hnv).keeps hk (by simp), (sums_front hs hd hns).keeps hk (by simp), hb, fun s hm => hd s (List.mem_of_mem_take hm)⟩
  have hDl : D.length = 35 := by rw [hD]; exact pf_length hb _ _
  have hrx : ∀ wx, Keeps [] wa wx → wx.rangeAt w.heap.size 0 C := fun wx hk => rangeAt_all ((hk.block _ y0 (by simp)).trans hbx)
  have hrd : ∀ wx, Keeps [] wd wx → wx.rangeAt wa.heap.size 0 D := fun wx hk => rangeAt_all ((hk.block _ (lt_of_heap hpd) (by simp)).trans hpd)
  obtain ⟨_, f1, f34⟩ := pf_cells (hC ▸ hbx) hb
  have hbb := (hkv.block _ y0 (by simp)).trans hbx
  obtain ⟨_, g1, g34⟩ := pf_cells (hC ▸ hbb) hb
  obtain ⟨_, k1, k34⟩ := pf_cells (hC ▸ hhp) hb
  have fr1 := frozen_of_row wb wa.heap.size 1 _ _ hhp
  have fr34 := frozen_of_row wb wa.heap.size 34 _ _ hhp
  have lb := lt_of_heap hhp
  have lbn : w.heap.size ≠ wa.heap.size := by omega
  have hsd := fun w => run_slice_digests w a2 p.sums.length c2 ns (by omega)
  have sv1 : (nv : Int) ≤ (c1 : Int) := by omega
  have sv0 : (0 : Int) ≤ (nv : Int) := by omega
  have HAL := Lib.hid hal
  have HZL := Lib.hid hzl
  have HWA := Lib.hid hwa
  have HWB := Lib.hid hwb
  have HWD := Lib.hid hwd
  have HST := Lib.hid hst
  have HQ := Lib.hid hQ
  have HRX := Lib.hid hrx
  have HRD := Lib.hid hrd
  have HSC := Lib.hid (size_35 hCl)
  have HSD := Lib.hid (size_35 hDl)
  have HSDG := Lib.hid hsd
  have H1 := Lib.hid h1
  have RA := Lib.hid (hrx wa (Keeps.refl _ _))
  clear hZ hal hzl hwa hbx hwb hwd hst hQ hrx hrd hsd h1 hC hD hCl hC1 hDl hb hd hv hs hhp hpd hbb hbq f1 f34
  go_enter Try.func18, Try.ntmps18
  go_upto_region 1 with fail
  rw [← HWA.out]
  go_upto_region 2 with (first | (refine wl_alloc rfl 30 rfl ?_; refine ⟨_, _, HAL.out _, ?_⟩; try simp only [Act.put, List.setIfInBounds_toArray, List.set_cons_zero, List.set_cons_succ, List.getElem_toArray, List.getElem_cons_zero, List.getElem_cons_succ]) | (refine wl_store rfl 30 (.tmp 7) (.tmp 14) rfl ?_; refine ⟨_, HST.out, ?_⟩; try simp only [Act.put, List.setIfInBounds_toArray, List.set_cons_zero, List.set_cons_succ, List.getElem_toArray, List.getElem_cons_zero, List.getElem_cons_succ]) | (refine wpList_load_mid rfl 30 (.tmp 3) rfl w.heap.size 0 (by rfl) C _ RA.out Try.underlying30 rfl HSC.out ?_; try simp only [Act.put, List.setIfInBounds_toArray, List.set_cons_zero, List.set_cons_succ, List.getElem_toArray, List.getElem_cons_zero, List.getElem_cons_succ]))
  go_upto_region 4 with (first | (refine wl_slice rfl 28 (.tmp 21) none (some (.tmp 22)) none rfl ?_; refine ⟨_, _, HSDG.out _, ?_⟩; try simp only [Act.put, List.setIfInBounds_toArray, List.set_cons_zero, List.set_cons_succ, List.getElem_toArray, List.getElem_cons_zero, List.getElem_cons_succ]))
  rw [← HWD.out]
  clear g1 g34 k1 k34 fr1 fr34 lbn sv1 sv0
  have kwd := ka.trans (G := []) kad (by simp)
  have RC1 := Lib.hid (HRX.out wd kad)
  go_wp2_with (refine wpList_load_mid rfl 30 (.tmp 3) rfl w.heap.size 0 (by rfl) C _ RC1.out Try.underlying30 rfl HSC.out ?_; try simp only [Act.put, List.setIfInBounds_toArray, List.set_cons_zero, List.set_cons_succ, List.getElem_toArray, List.getElem_cons_zero, List.getElem_cons_succ])
  refine (copyProof_any (H1.out.keeps kwd) l1 l2).mono ?_
  rintro e w1 ⟨v1, rfl, hP1, hk1⟩
  obtain ⟨C1, rfl, hl1, ho1⟩ := hP1.form
  obtain ⟨hst1, hhp1, hkv1⟩ := pf_var (w := w1) hl1 ho1 HZL.out
  obtain ⟨w2, hw2⟩ : ∃ w2, w2 = (w1.alloc (.cells Z.toArray 30 (0, 0))).setCells w1.heap.size 0 C1 := ⟨_, rfl⟩
  rw [← hw2] at hst1 hhp1 hkv1
  have k2 := hk1.trans (G := []) hkv1 (by simp)
  have kw2 := kwd.trans (G := []) k2 (by simp)
  have P2 := hP1.keeps hkv1
  have y2 := lt_of_heap hhp1
  have HHP1 := Lib.hid hhp1
  have HST1 := Lib.hid hst1
  have S1 := Lib.hid (size_35 hl1)
  have RD2 := Lib.hid (HRD.out w2 k2)
  have cQ := Lib.hid (copyProof_any (HQ.out w2 kw2) (by simp; omega) (by simp; omega))
  clear hst1 hhp1 hw2
  go_wp2_with (first | (refine wl_alloc rfl 30 rfl ?_; refine ⟨_, _, HAL.out _, ?_⟩; try simp only [Act.put, List.setIfInBounds_toArray, List.set_cons_zero, List.set_cons_succ, List.getElem_toArray, List.getElem_cons_zero, List.getElem_cons_succ]) | (refine wl_store rfl 30 (.tmp 8) (.tmp 26) rfl ?_; refine ⟨_, HST1.out, ?_⟩; try simp only [Act.put, List.setIfInBounds_toArray, List.set_cons_zero, List.set_cons_succ, List.getElem_toArray, List.getElem_cons_zero, List.getElem_cons_succ]) | (refine wpList_load_mid rfl 30 (.tmp 7) rfl wa.heap.size 0 (by rfl) D _ RD2.out Try.underlying30 rfl HSD.out ?_; try simp only [Act.put, List.setIfInBounds_toArray, List.set_cons_zero, List.set_cons_succ, List.getElem_toArray, List.getElem_cons_zero, List.getElem_cons_succ]))
  refine cQ.out.mono ?_
  rintro e w3 ⟨v3, rfl, hP3, hk3⟩
  obtain ⟨C3, rfl, hl3, ho3⟩ := hP3.form
  obtain ⟨hst3, hhp3, hkv3⟩ := pf_var (w := w3) hl3 ho3 HZL.out
  obtain ⟨w4, hw4⟩ : ∃ w4, w4 = (w3.alloc (.cells Z.toArray 30 (0, 0))).setCells w3.heap.size 0 C3 := ⟨_, rfl⟩
  rw [← hw4] at hst3 hhp3 hkv3
  have k24 := hk3.trans (G := []) hkv3 (by simp)
  have kw4 := kw2.trans (G := []) k24 (by simp)
  have kd4 := k2.trans (G := []) k24 (by simp)
  have P4 := hP3.keeps hkv3
  have y4 := lt_of_heap hhp3
  have HHP3 := Lib.hid hhp3
  have HST3 := Lib.hid hst3
  have S3 := Lib.hid (size_35 hl3)
  have RD4 := Lib.hid (HRD.out w4 kd4)
  obtain ⟨el, code, hE, hR⟩ := enc_both ⟨p.found, p.val.take nv, p.bits, p.sums.take ns⟩
  have HE := Lib.hid (hE w4 _ (HQ.out w4 kw4))
  have HRR := Lib.hid hR
  clear hst3 hhp3 hw4 hE hR
  go_wp2_with (first | (refine wl_alloc rfl 30 rfl ?_; refine ⟨_, _, HAL.out _, ?_⟩; try simp only [Act.put, List.setIfInBounds_toArray, List.set_cons_zero, List.set_cons_succ, List.getElem_toArray, List.getElem_cons_zero, List.getElem_cons_succ]) | (refine wl_store rfl 30 (.tmp 9) (.tmp 28) rfl ?_; refine ⟨_, HST3.out, ?_⟩; try simp only [Act.put, List.setIfInBounds_toArray, List.set_cons_zero, List.set_cons_succ, List.getElem_toArray, List.getElem_cons_zero, List.getElem_cons_succ]) | (refine wpList_load_mid rfl 30 (.tmp 7) rfl wa.heap.size 0 (by rfl) D _ RD4.out Try.underlying30 rfl HSD.out ?_; try simp only [Act.put, List.setIfInBounds_toArray, List.set_cons_zero, List.set_cons_succ, List.getElem_toArray, List.getElem_cons_zero, List.getElem_cons_succ]))
  refine HE.out.mono ?_
  rintro e w5 ⟨rv5, rfl, hB5, hk5⟩
  have h35 := (hk5.block _ y4 (by simp)).trans HHP3.out
  have R5 := Lib.hid (rangeAt_all h35)
  have HR5 := Lib.hid (HRR.out w5 _ (P4.keeps hk5))
  have HB5 := Lib.hid hB5
  clear h35 hB5
  go_wp2_with (refine wpList_load_mid rfl 30 (.tmp 9) rfl w3.heap.size 0 (by rfl) C3 _ R5.out Try.underlying30 rfl S3.out ?_; try simp only [Act.put, List.setIfInBounds_toArray, List.set_cons_zero, List.set_cons_succ, List.getElem_toArray, List.getElem_cons_zero, List.getElem_cons_succ])
  refine HR5.out.mono ?_
  rintro e w6 ⟨rv6, rfl, hB6, hk6⟩
  have k26 := (k24.trans (G := []) hk5 (by simp)).trans (G := []) hk6 (by simp)
  have cS := sameBytes_any (HB5.out.keeps hk6 (by simp)) hB6
  rw [beq_self_eq_true] at cS
  have CS := Lib.hid cS
  have hcc : (code == code) = true := by simp
  clear cS hB6
  go_wp2_with fail
  refine CS.out.mono ?_
  rintro e w7 ⟨rfl, hk7⟩
  have k27 := k26.trans (G := []) hk7 (by simp)
  have kd7 := k2.trans (G := []) k27 (by simp)
  have ka7 := kad.trans (G := []) kd7 (by simp)
  have h17 := (k27.block _ y2 (by simp)).trans HHP1.out
  have RC7 := Lib.hid (HRX.out w7 ka7)
  have R17 := Lib.hid (rangeAt_all h17)
  have P7 := P2.keeps k27
  have kw7 := kwd.trans (G := []) kd7 (by simp)
  clear h17
  go_wp2_with (first | (refine Go.BigFrame.wpList_want (by rfl) fun K hK => wp_load_mid 30 (.tmp 3) rfl w.heap.size 0 (by rfl) C _ RC7.out Try.underlying30 rfl HSC.out (hK _ _ ?_)) | (refine Go.BigFrame.wpList_want (by rfl) fun K hK => wp_load_mid 30 (.tmp 8) rfl w1.heap.size 0 (by rfl) C1 _ R17.out Try.underlying30 rfl S1.out (hK _ _ ?_)))
  refine (sameProof_true (H1.out.keeps kw7) P7).mono ?_
  rintro e w8 ⟨rfl, hk8⟩
  go_wp2_with fail
  go_ret
  exact ⟨rfl, kw7.trans (G := []) hk8 (by simp)⟩
end Go.Proofs.Ytnobhfpjchofpaa
