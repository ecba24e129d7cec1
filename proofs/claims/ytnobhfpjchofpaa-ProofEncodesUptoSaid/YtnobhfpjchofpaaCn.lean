/-
  The walk of ledgerlaw12.ProofBack.
-/
import Derived.Test.YtnobhfpjchofpaaCg
import Derived.Test.YtnobhfpjchofpaaCm
import Derived.Deep.DeepCutAuto
namespace Go.Proofs.Ytnobhfpjchofpaa
set_option linter.unusedVariables false
set_option linter.unusedSimpArgs false
open Go.RowKit

theorem encode_yes {w : World} {v : Value} {p : Pf} (hp : PfIn w v p) (hw : p.well = true) :
    Calls Try.prog 10 #[v] w fun e w' => ∃ rv, e = .returned (.tuple #[rv, .int .i64 0]) ∧ OwnB w' rv p.enc ∧ (∀ k, rv.ownBlock = some k → w.heap.size ≤ k) ∧ Keeps [] w w' := by
  cases hf : p.found with
  | true => exact encode_found hp hw hf
  | false => exact encode_absent hp hw hf
theorem PfIn.form {w : World} {v : Value} {p : Pf} (h : PfIn w v p) : ∃ C : List Value, v = .agg C.toArray ∧ C.length = 35 ∧ ∀ u ∈ C, u.oneCell' = true := by
  obtain ⟨vv, sv, rfl, h1, h2, h3, _⟩ := h
  obtain ⟨a1, c1, rfl, _⟩ := h1.form
  obtain ⟨a2, c2, rfl, _⟩ := h2.form
  exact ⟨_, rfl, pf_length h3 _ _, pf_ones⟩
theorem size_35 {C : List Value} (h : C.length = 35) : (Try.prog.info? 30).map (·.size) = some C.length := by rw [size_proof, h]
/-- A new variable of a proof, stored into. -/
theorem pf_var {w : World} {C : List Value} (hl : C.length = 35) (h1 : ∀ u ∈ C, u.oneCell' = true) {Z : List Value} (hz : Z.length = 35) :
    (Instr.storeAt 30 (.pointer (some ⟨w.heap.size, 0, none⟩)) (.agg C.toArray)).run Try.prog (w.alloc (.cells Z.toArray 30 (0, 0))) = .ok () ((w.alloc (.cells Z.toArray 30 (0, 0))).setCells w.heap.size 0 C) ∧
    ((w.alloc (.cells Z.toArray 30 (0, 0))).setCells w.heap.size 0 C).heap[w.heap.size]? = some (.cells C.toArray 30 (0, 0)) ∧ Keeps [] w ((w.alloc (.cells Z.toArray 30 (0, 0))).setCells w.heap.size 0 C) :=
  ⟨run_store_pf (heap_new_at rfl) hz hl h1, store_all (heap_new_at rfl) (by rw [hz, hl]), ((Keeps.refl _ _).alloc _).setCells (.inr (Nat.le_refl _)) 0 C⟩

set_option maxRecDepth 100000 in
set_option maxHeartbeats 1600000 in
theorem back_walk {w : World} {v1 v2 : Value} {p : Pf} {raw : List UInt8} (h1 : PfIn w v1 p) (h2 : BytesAt w v2 raw) (l1 : p.val.length ≤ 2097152) (l2 : p.sums.length ≤ 2097152) :
    Calls Try.prog 7 #[v1, v2] w fun e w' => e = .returned (.bool true) ∧ Keeps [] w w' := by
  obtain ⟨a2, c2, rfl, hc2, hm2⟩ := h2.form
  unfold maxLen at hm2
  obtain ⟨C, rfl, hCl, hC1⟩ := h1.form
  obtain ⟨Z, hZ⟩ : ∃ Z, Z = (pfCells pf0 (.slice none 0 0) (.slice none 0 0)) := ⟨_, rfl⟩
  have hal := fun (w : World) => run_alloc (P := Try.prog) w info_proof
  rw [zProof_cells, show (⟨false, [], List.replicate 32 0, []⟩ : Pf) = pf0 from rfl, ← hZ] at hal
  have hbz := run_build_zero
  rw [← hZ] at hbz
  have hzl : Z.length = 35 := by rw [hZ]; exact pf_length (by simp [pf0, zero32]) _ _
  have hpz : ∀ wx, PfIn wx (.agg Z.toArray) pf0 := fun wx => ⟨.slice none 0 0, .slice none 0 0, by rw [hZ], BytesAt_nil _, .inl ⟨rfl, none, 0, rfl, by simp [maxLen]⟩, by simp [pf0, zero32], by simp [pf0]⟩
  obtain ⟨wa, hwa⟩ : ∃ wa, wa = w.alloc (.cells C.toArray 30 (0, 0)) := ⟨_, rfl⟩
  have hbx : wa.heap[w.heap.size]? = some (.cells C.toArray 30 (0, 0)) := by rw [hwa, heap_new_at rfl]
  have ka : Keeps [] w wa := by rw [hwa]; exact (Keeps.refl _ _).alloc _
  have y0 := lt_of_heap hbx
  have hrx : ∀ wx, Keeps [] wa wx → wx.rangeAt w.heap.size 0 C := fun wx hk => rangeAt_all ((hk.block _ y0 (by simp)).trans hbx)
  have hpx : ∀ wx, Keeps [] wa wx → PfIn wx (.agg C.toArray) p := fun wx hk => h1.keeps (ka.trans (G := []) hk (by simp))
  have hrw : ∀ wx, Keeps [] wa wx → BytesAt wx (.slice a2 raw.length c2) raw := fun wx hk => h2.keeps (ka.trans (G := []) hk (by simp)) (by simp)
  have HRX := Lib.hid hrx
  have HPX := Lib.hid hpx
  have HRW := Lib.hid hrw
  have HSZ := Lib.hid (size_35 hCl)
  have HAL := Lib.hid hal
  have HBZ := Lib.hid hbz
  have HZL := Lib.hid hzl
  have HPZ := Lib.hid hpz
  have HWA := Lib.hid hwa
  clear hZ hal hbz hzl hpz hbx hrx hpx hrw hCl hC1 h1 h2
  go_enter Try.func7, Try.ntmps7
  have RA := Lib.hid (HRX.out wa (Keeps.refl _ _))
  go_upto_region 1 with fail
  rw [← HWA.out]
  clear hwa
  go_wp2_with (refine wpList_load_mid rfl 30 (.tmp 2) rfl w.heap.size 0 (by rfl) C _ RA.out Try.underlying30 rfl HSZ.out ?_)
  refine (copyProof_any (HPX.out wa (Keeps.refl _ _)) l1 l2).mono ?_
  rintro e w1 ⟨v', rfl, hP1, hk1⟩
  go_wp2_with fail
  by_cases hw : p.well = true
  rotate_left 1
  · have hwf : p.well = false := Bool.eq_false_iff.2 hw
    refine (encode_no hP1 hwf).mono ?_
    rintro e w2 ⟨rfl, hk2⟩
    have K2 := hk1.trans (G := []) hk2 (by simp)
    have R2 := Lib.hid (HRX.out w2 K2)
    clear hw
    go_wp2_with (refine wpList_load_mid rfl 30 (.tmp 2) rfl w.heap.size 0 (by rfl) C _ R2.out Try.underlying30 rfl HSZ.out ?_)
    have cW := well_any (HPX.out w2 K2)
    rw [hwf] at cW
    refine cW.mono ?_
    rintro e w3 ⟨rfl, hk3⟩
    have K3 := K2.trans (G := []) hk3 (by simp)
    clear cW
    by_cases hn : ∃ q : Pf, q.ok ∧ q.well = true ∧ raw = q.enc
    · obtain ⟨q, hq1, hq2, hq3⟩ := hn
      have hdq := HRW.out w3 K3
      rw [hq3] at hdq
      have hdq2 := decode_yes hdq hq1 hq2
      rw [← hq3] at hdq2
      have HQ3 := Lib.hid hq3
      have HDQ := Lib.hid hdq2
      clear hdq hdq2 hq3
      go_wp2_with fail
      refine HDQ.out.mono ?_
      rintro e w5 ⟨u5, rfl, hP5, hk5⟩
      obtain ⟨C5, rfl, hl5, ho5⟩ := hP5.form
      obtain ⟨hst, hhp, hkv⟩ := pf_var (w := w5) hl5 ho5 HZL.out
      have K5 := (K3.trans (G := []) hk5 (by simp)).trans (G := []) hkv (by simp)
      have P5 := hP5.keeps hkv
      have R5 := Lib.hid (rangeAt_all hhp)
      have HST := Lib.hid hst
      have S5 := Lib.hid (size_35 hl5)
      have y5 := lt_of_heap hhp
      have HHP := Lib.hid hhp
      obtain ⟨w6, hw6⟩ : ∃ w6, w6 = (w5.alloc (.cells Z.toArray 30 (0, 0))).setCells w5.heap.size 0 C5 := ⟨_, rfl⟩
      rw [← hw6] at K5 P5 y5
      have R6 : w6.rangeAt w5.heap.size 0 C5 := by rw [hw6]; exact R5.out
      have HP6 : w6.heap[w5.heap.size]? = some (.cells C5.toArray 30 (0, 0)) := by rw [hw6]; exact HHP.out
      have HR6 := Lib.hid R6
      have HHP6 := Lib.hid HP6
      have HW6 := Lib.hid hw6
      clear hst hhp R6 HP6
      go_wp2_with (first | (refine wl_alloc rfl 30 rfl ?_; refine ⟨_, _, HAL.out _, ?_⟩; try simp only [Act.put, List.setIfInBounds_toArray, List.set_cons_zero, List.set_cons_succ, List.getElem_toArray, List.getElem_cons_zero, List.getElem_cons_succ]) | (refine wl_store rfl 30 (.tmp 9) (.tmp 48) rfl ?_; refine ⟨_, HST.out, ?_⟩; try simp only [Act.put, List.setIfInBounds_toArray, List.set_cons_zero, List.set_cons_succ, List.getElem_toArray, List.getElem_cons_zero, List.getElem_cons_succ]) | (refine wpList_load_mid rfl 30 (.tmp 9) rfl w5.heap.size 0 (by rfl) C5 _ R5.out Try.underlying30 rfl S5.out ?_))
      rw [← HW6.out]
      refine (encode_yes P5 hq2).mono ?_
      rintro e w7 ⟨rv7, rfl, hO7, _, hk7⟩
      obtain ⟨a7, c7, rfl⟩ := ownB_slice hO7
      have hp7 := (hk7.block _ y5 (by simp)).trans HHP6.out
      have R7 := Lib.hid (rangeAt_all hp7)
      have P7 := P5.keeps hk7
      have O7 := Lib.hid hO7
      clear hO7 hp7 hw6
      go_wp2_with (refine wpList_load_mid rfl 30 (.tmp 9) rfl w5.heap.size 0 (by rfl) C5 _ R7.out Try.underlying30 rfl S5.out ?_)
      refine (well_any P7).mono ?_
      rw [hq2]
      rintro e w8 ⟨rfl, hk8⟩
      have K8 := (K5.trans (G := []) hk7 (by simp)).trans (G := []) hk8 (by simp)
      have cS := sameBytes_any ((ownB_bytes O7.out).keeps hk8 (by simp)) (HRW.out w8 K8)
      rw [← HQ3.out, beq_self_eq_true] at cS
      have CS := Lib.hid cS
      clear cS
      have el : q.enc.length = raw.length := by rw [HQ3.out]
      rw [el]
      go_wp2_with fail
      refine CS.out.mono ?_
      rintro e w9 ⟨rfl, hk9⟩
      go_wp2_with fail
      go_ret
      exact ⟨rfl, (ka.trans (G := []) K8 (by simp)).trans (G := []) hk9 (by simp)⟩
    · have HDQ := Lib.hid (decode_no (HRW.out w3 K3) hn)
      clear hn
      go_wp2_with fail
      refine HDQ.out.mono ?_
      rintro e w5 ⟨u5, rfl, hP5, hk5⟩
      obtain ⟨C5, rfl, hl5, ho5⟩ := hP5.form
      obtain ⟨hst, hhp, hkv⟩ := pf_var (w := w5) hl5 ho5 HZL.out
      have K5 := (K3.trans (G := []) hk5 (by simp)).trans (G := []) hkv (by simp)
      have P5 := hP5.keeps hkv
      have R5 := Lib.hid (rangeAt_all hhp)
      have HST := Lib.hid hst
      have S5 := Lib.hid (size_35 hl5)
      clear hst hhp
      go_wp2_with (first | (refine wl_alloc rfl 30 rfl ?_; refine ⟨_, _, HAL.out _, ?_⟩; try simp only [Act.put, List.setIfInBounds_toArray, List.set_cons_zero, List.set_cons_succ, List.getElem_toArray, List.getElem_cons_zero, List.getElem_cons_succ]) | (refine wl_store rfl 30 (.tmp 9) (.tmp 48) rfl ?_; refine ⟨_, HST.out, ?_⟩; try simp only [Act.put, List.setIfInBounds_toArray, List.set_cons_zero, List.set_cons_succ, List.getElem_toArray, List.getElem_cons_zero, List.getElem_cons_succ]) | (refine wpList_load_mid rfl 30 (.tmp 9) rfl w5.heap.size 0 (by rfl) C5 _ R5.out Try.underlying30 rfl S5.out ?_) | (refine wl_build rfl 30 #[] #[] rfl (by simp [Act.eval]) ?_; refine ⟨_, _, HBZ.out _, ?_⟩; try simp only [Act.put, List.setIfInBounds_toArray, List.set_cons_zero, List.set_cons_succ, List.getElem_toArray, List.getElem_cons_zero, List.getElem_cons_succ]))
      refine (sameProof_true P5 (HPZ.out _)).mono ?_
      rintro e w6 ⟨rfl, hk6⟩
      go_wp2_with fail
      go_ret
      exact ⟨rfl, (ka.trans (G := []) K5 (by simp)).trans (G := []) hk6 (by simp)⟩
  · refine (encode_yes hP1 hw).mono ?_
    rintro e w2 ⟨rv, rfl, hO2, _, hk2⟩
    have K2 := hk1.trans (G := []) hk2 (by simp)
    have R2 := Lib.hid (HRX.out w2 K2)
    obtain ⟨arv, crv, rfl⟩ := ownB_slice hO2
    have HO2 := Lib.hid hO2
    clear hO2
    go_wp2_with (refine wpList_load_mid rfl 30 (.tmp 2) rfl w.heap.size 0 (by rfl) C _ R2.out Try.underlying30 rfl HSZ.out ?_)
    have cW := well_any (HPX.out w2 K2)
    rw [hw] at cW
    refine cW.mono ?_
    rintro e w3 ⟨rfl, hk3⟩
    have K3 := K2.trans (G := []) hk3 (by simp)
    have hdp := decode_yes ((ownB_bytes HO2.out).keeps hk3 (by simp)) (HPX.out w3 K3).okp hw
    have HDP := Lib.hid hdp
    clear cW hdp
    go_wp2_with fail
    refine HDP.out.mono ?_
    rintro e w4 ⟨u4, rfl, hP4, hk4⟩
    obtain ⟨C4, rfl, hl4, ho4⟩ := hP4.form
    obtain ⟨hst, hhp, hkv⟩ := pf_var (w := w4) hl4 ho4 HZL.out
    have K4 := (K3.trans (G := []) hk4 (by simp)).trans (G := []) hkv (by simp)
    have P4 := hP4.keeps hkv
    have R4 := Lib.hid (rangeAt_all hhp)
    have HST4 := Lib.hid hst
    have S4 := Lib.hid (size_35 hl4)
    have RC := Lib.hid (HRX.out _ K4)
    have PC := HPX.out _ K4
    clear hst hhp
    go_wp2_with (first | (refine wl_alloc rfl 30 rfl ?_; refine ⟨_, _, HAL.out _, ?_⟩; try simp only [Act.put, List.setIfInBounds_toArray, List.set_cons_zero, List.set_cons_succ, List.getElem_toArray, List.getElem_cons_zero, List.getElem_cons_succ]) | (refine wl_store rfl 30 (.tmp 7) (.tmp 24) rfl ?_; refine ⟨_, HST4.out, ?_⟩; try simp only [Act.put, List.setIfInBounds_toArray, List.set_cons_zero, List.set_cons_succ, List.getElem_toArray, List.getElem_cons_zero, List.getElem_cons_succ]) | (refine Go.BigFrame.wpList_want (by rfl) fun K hK => wp_load_mid 30 (.tmp 7) rfl w4.heap.size 0 (by rfl) C4 _ R4.out Try.underlying30 rfl S4.out (hK _ _ ?_)) | (refine Go.BigFrame.wpList_want (by rfl) fun K hK => wp_load_mid 30 (.tmp 2) rfl w.heap.size 0 (by rfl) C _ RC.out Try.underlying30 rfl HSZ.out (hK _ _ ?_)))
    refine (sameProof_true P4 PC).mono ?_
    rintro e w4b ⟨rfl, hk4b⟩
    have K4b := K4.trans (G := []) hk4b (by simp)
    clear RC PC R4 HST4
    by_cases hn : ∃ q : Pf, q.ok ∧ q.well = true ∧ raw = q.enc
    · obtain ⟨q, hq1, hq2, hq3⟩ := hn
      have hdq := HRW.out w4b K4b
      rw [hq3] at hdq
      have hdq2 := decode_yes hdq hq1 hq2
      rw [← hq3] at hdq2
      have HQ3 := Lib.hid hq3
      have HDQ := Lib.hid hdq2
      clear hdq hdq2 hq3
      go_wp2_with fail
      refine HDQ.out.mono ?_
      rintro e w5 ⟨u5, rfl, hP5, hk5⟩
      obtain ⟨C5, rfl, hl5, ho5⟩ := hP5.form
      obtain ⟨hst, hhp, hkv⟩ := pf_var (w := w5) hl5 ho5 HZL.out
      have K5 := (K4b.trans (G := []) hk5 (by simp)).trans (G := []) hkv (by simp)
      have P5 := hP5.keeps hkv
      have R5 := Lib.hid (rangeAt_all hhp)
      have HST := Lib.hid hst
      have S5 := Lib.hid (size_35 hl5)
      have y5 := lt_of_heap hhp
      have HHP := Lib.hid hhp
      obtain ⟨w6, hw6⟩ : ∃ w6, w6 = (w5.alloc (.cells Z.toArray 30 (0, 0))).setCells w5.heap.size 0 C5 := ⟨_, rfl⟩
      rw [← hw6] at K5 P5 y5
      have R6 : w6.rangeAt w5.heap.size 0 C5 := by rw [hw6]; exact R5.out
      have HP6 : w6.heap[w5.heap.size]? = some (.cells C5.toArray 30 (0, 0)) := by rw [hw6]; exact HHP.out
      have HR6 := Lib.hid R6
      have HHP6 := Lib.hid HP6
      have HW6 := Lib.hid hw6
      clear hst hhp R6 HP6
      go_wp2_with (first | (refine wl_alloc rfl 30 rfl ?_; refine ⟨_, _, HAL.out _, ?_⟩; try simp only [Act.put, List.setIfInBounds_toArray, List.set_cons_zero, List.set_cons_succ, List.getElem_toArray, List.getElem_cons_zero, List.getElem_cons_succ]) | (refine wl_store rfl 30 (.tmp 9) (.tmp 48) rfl ?_; refine ⟨_, HST.out, ?_⟩; try simp only [Act.put, List.setIfInBounds_toArray, List.set_cons_zero, List.set_cons_succ, List.getElem_toArray, List.getElem_cons_zero, List.getElem_cons_succ]) | (refine wpList_load_mid rfl 30 (.tmp 9) rfl w5.heap.size 0 (by rfl) C5 _ R5.out Try.underlying30 rfl S5.out ?_))
      rw [← HW6.out]
      refine (encode_yes P5 hq2).mono ?_
      rintro e w7 ⟨rv7, rfl, hO7, _, hk7⟩
      obtain ⟨a7, c7, rfl⟩ := ownB_slice hO7
      have hp7 := (hk7.block _ y5 (by simp)).trans HHP6.out
      have R7 := Lib.hid (rangeAt_all hp7)
      have P7 := P5.keeps hk7
      have O7 := Lib.hid hO7
      clear hO7 hp7 hw6
      go_wp2_with (refine wpList_load_mid rfl 30 (.tmp 9) rfl w5.heap.size 0 (by rfl) C5 _ R7.out Try.underlying30 rfl S5.out ?_)
      refine (well_any P7).mono ?_
      rw [hq2]
      rintro e w8 ⟨rfl, hk8⟩
      have K8 := (K5.trans (G := []) hk7 (by simp)).trans (G := []) hk8 (by simp)
      have cS := sameBytes_any ((ownB_bytes O7.out).keeps hk8 (by simp)) (HRW.out w8 K8)
      rw [← HQ3.out, beq_self_eq_true] at cS
      have CS := Lib.hid cS
      clear cS
      have el : q.enc.length = raw.length := by rw [HQ3.out]
      rw [el]
      go_wp2_with fail
      refine CS.out.mono ?_
      rintro e w9 ⟨rfl, hk9⟩
      go_wp2_with fail
      go_ret
      exact ⟨rfl, (ka.trans (G := []) K8 (by simp)).trans (G := []) hk9 (by simp)⟩
    · have HDQ := Lib.hid (decode_no (HRW.out w4b K4b) hn)
      clear hn
      go_wp2_with fail
      refine HDQ.out.mono ?_
      rintro e w5 ⟨u5, rfl, hP5, hk5⟩
      obtain ⟨C5, rfl, hl5, ho5⟩ := hP5.form
      obtain ⟨hst, hhp, hkv⟩ := pf_var (w := w5) hl5 ho5 HZL.out
      have K5 := (K4b.trans (G := []) hk5 (by simp)).trans (G := []) hkv (by simp)
      have P5 := hP5.keeps hkv
      have R5 := Lib.hid (rangeAt_all hhp)
      have HST := Lib.hid hst
      have S5 := Lib.hid (size_35 hl5)
      clear hst hhp
      go_wp2_with (first | (refine wl_alloc rfl 30 rfl ?_; refine ⟨_, _, HAL.out _, ?_⟩; try simp only [Act.put, List.setIfInBounds_toArray, List.set_cons_zero, List.set_cons_succ, List.getElem_toArray, List.getElem_cons_zero, List.getElem_cons_succ]) | (refine wl_store rfl 30 (.tmp 9) (.tmp 48) rfl ?_; refine ⟨_, HST.out, ?_⟩; try simp only [Act.put, List.setIfInBounds_toArray, List.set_cons_zero, List.set_cons_succ, List.getElem_toArray, List.getElem_cons_zero, List.getElem_cons_succ]) | (refine wpList_load_mid rfl 30 (.tmp 9) rfl w5.heap.size 0 (by rfl) C5 _ R5.out Try.underlying30 rfl S5.out ?_) | (refine wl_build rfl 30 #[] #[] rfl (by simp [Act.eval]) ?_; refine ⟨_, _, HBZ.out _, ?_⟩; try simp only [Act.put, List.setIfInBounds_toArray, List.set_cons_zero, List.set_cons_succ, List.getElem_toArray, List.getElem_cons_zero, List.getElem_cons_succ]))
      refine (sameProof_true P5 (HPZ.out _)).mono ?_
      rintro e w6 ⟨rfl, hk6⟩
      go_wp2_with fail
      go_ret
      exact ⟨rfl, (ka.trans (G := []) K5 (by simp)).trans (G := []) hk6 (by simp)⟩
theorem back_law {w : World} {v1 v2 : Value} {p : Pf} {raw : List UInt8} (h1 : PfIn w v1 p) (h2 : BytesAt w v2 raw) (l1 : p.val.length ≤ 2097152) (l2 : p.sums.length ≤ 2097152) :
    Calls Try.prog 7 #[v1, v2] w fun e w' => e = .returned (.bool true) ∧ Below w.heap.size w w' := (back_walk h1 h2 l1 l2).mono fun e w' h => ⟨h.1, h.2.below0 (Nat.le_refl _)⟩
end Go.Proofs.Ytnobhfpjchofpaa
