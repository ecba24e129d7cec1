/-
  Layer 12's law: roomy and decoded.
-/
import Derived.Test.YtnobhfpjchofpaaCv
namespace Go.Proofs.Ytnobhfpjchofpaa
set_option linter.unusedVariables false
set_option linter.unusedSimpArgs false
open Go.RowKit

/-- The hundred bytes behind. -/
def behind : List UInt8 := (List.range 100).map fun i => UInt8.ofNat (101 + i)
theorem behind_get {i : Nat} (h : i < 100) : behind[i]? = some (UInt8.ofNat (101 + i)) := by unfold behind; rw [List.getElem?_map, List.getElem?_range h]; rfl

theorem owns_own {w : World} {b : Nat} {l : List UInt8} (h : w.heap[b]? = some (.cells (l.map B).toArray 5 (0, 0))) (hm : l.length ≤ 1099511627776) : OwnB w (.slice (some ⟨b, 0, none⟩) l.length l.length) l :=
  ⟨by simp, .inr ⟨b, l.length, (l.map B).toArray, rfl, Nat.zero_le _, h, Nat.le_refl _, by simp only [maxLen]; omega, by simp, by rw [Nat.mul_one]; exact List.take_of_length_le (by simp)⟩⟩

set_option maxRecDepth 100000 in
set_option maxHeartbeats 1600000 in
theorem roomy_any {w : World} {v : Value} {l : List UInt8} (hv : BytesAt w v l) (hl : l.length ≤ 2097152) :
    Calls Try.prog 17 #[v] w fun e w' => ∃ g, e = .returned (.slice (some ⟨g, 0, none⟩) (l.length + 100) (l.length + 100)) ∧ w.heap.size ≤ g ∧ OwnB w' (.slice (some ⟨g, 0, none⟩) (l.length + 100) (l.length + 100)) (l ++ behind) ∧ Keeps [] w w' := by
  obtain ⟨a, c, rfl, hc, hm⟩ := hv.form
  unfold maxLen at hm
  obtain ⟨i0, hi, hz0, hz1, hz2⟩ := info_parts info_u8
  obtain ⟨M, hM⟩ : ∃ M, M = l.length + 100 := ⟨_, rfl⟩
  have hmk := run_make (P := Try.prog) w 26 5 i0 _ Try.underlying26 hi hz0 .i64 .i64 (M : Int) (M : Int) (by omega) (by omega) (by rw [hz2]; omega) (by omega)
  have hz : madeCells (Value.int .u8 0).cells (Int.toNat (M : Int) * i0.size) = (((List.replicate M (0 : UInt8))).map B).toArray := by
    rw [hz1, show (Value.int .u8 0).cells = Array.replicate 1 (.int .u8 0) from rfl, madeCells_same 1 _ _ (by omega)]
    simp only [List.map_replicate, Nat.mul_one, Int.toNat_natCast]
    rfl
  rw [hz] at hmk
  obtain ⟨ZL, hZL⟩ : ∃ ZL, ZL = List.replicate M (0 : UInt8) := ⟨_, rfl⟩
  rw [← hZL] at hmk
  simp only [Int.toNat_natCast] at hmk
  obtain ⟨T, hT⟩ : ∃ T, T = l ++ behind := ⟨_, rfl⟩
  have hTl : T.length = M := by rw [hT, List.length_append, hM]; rfl
  have hZl : ZL.length = T.length := by rw [hZL, List.length_replicate, hTl]
  have hTlo : ∀ k x, l[k]? = some x → T[k]? = some x := fun k x h => by
    rw [hT, List.getElem?_append_left (List.getElem?_eq_some_iff.1 h).1]
    exact h
  have hThi : ∀ k, l.length ≤ k → k < M → T[k]? = some (UInt8.ofNat (101 + (k - l.length))) := fun k h1 h2 => by
    rw [hT, List.getElem?_append_right h1]
    exact behind_get (by omega)
  have hsum : (l.length : Int) + 100 = (M : Int) := by omega
  have HMK := Lib.hid hmk
  have HT := Lib.hid hT
  have HTL := Lib.hid hTl
  have HZL := Lib.hid hZl
  have HLO := Lib.hid hTlo
  have HHI := Lib.hid hThi
  have HM := Lib.hid hM
  have HV := Lib.hid hv
  have hMb : M ≤ 2097252 := by omega
  have hMl : l.length + 100 = M := by omega
  clear hi hz0 hz1 hz2 hz hZL hmk hT hTl hZl hTlo hThi hM hv
  rw [hMl]
  have HML := Lib.hid hMl
  clear hMl
  go_enter Try.func17, Try.ntmps17
  go_wp2_with (refine wl_makeSlice rfl 26 (.tmp 7) (.tmp 7) rfl ?_; refine ⟨_, _, HMK.out, ?_⟩; try simp only [Act.put, List.setIfInBounds_toArray, List.set_cons_zero, List.set_cons_succ, List.getElem_toArray, List.getElem_cons_zero, List.getElem_cons_succ])
  clear hsum
  go_loopw [4] (fun i wr => ∃ k : Nat, k ≤ M ∧ i = .int .i64 k ∧ wr.heap[w.heap.size]? = some (.cells ((T.take k ++ ZL.drop k).map B).toArray 5 (0, 0)) ∧ Keeps [] w wr) (fun i _ => M - (intOf i).toNat)
  case atStart => exact ⟨0, Nat.zero_le _, rfl, by rw [List.take_zero, List.nil_append, List.drop_zero]; exact heap_new_at rfl, (Keeps.refl _ _).alloc _⟩
  case round =>
    obtain ⟨k, hk, rfl, hdr, hkr⟩ := hrel
    by_cases hlt : k < M
    · have e2 := frozen_of_row wr w.heap.size k _ _ hdr
      have hcl : (T.take k ++ ZL.drop k).length = M := by rw [List.length_append, List.length_take, List.length_drop, HZL.out, HTL.out]; omega
      obtain ⟨b', hb'⟩ : ∃ b' : UInt8, (T.take k ++ ZL.drop k)[k]? = some b' := ⟨_, List.getElem?_eq_getElem (by omega)⟩
      have e3 := row_cell hdr hb'
      have hld := lt_of_heap hdr
      have b0 : (0 : Int) ≤ (k : Int) := by omega
      have b1 : (k : Int) < (M : Int) := by omega
      by_cases hin : k < l.length
      · obtain ⟨g, o, rfl, hg, hr⟩ := HV.out.at (by omega)
        obtain ⟨x, hx⟩ : ∃ x, l[k]? = some x := ⟨l[k], List.getElem?_eq_getElem hin⟩
        have e1 := range_byte (w' := wr) hr (hkr.block g hg (by simp)) hx
        have hset := row_set hdr k x
        rw [part_set HZL.out (HLO.out k x hx)] at hset
        have b2 : (k : Int) < (l.length : Int) := by omega
        have HSET := Lib.hid hset
        clear hset hx hr hdr hb' hcl
        go_wp2_with fail
        go_roundw
        case rel => exact ⟨k + 1, by omega, by go_num, HSET.out, hkr.setCell (.inr (Nat.le_refl _)) _⟩
        case measure => simp [intOf]; omega
      · have hset := row_set hdr k (UInt8.ofNat (101 + (k - l.length)))
        rw [part_set HZL.out (HHI.out k (by omega) hlt)] at hset
        have hB : B (UInt8.ofNat (101 + (k - l.length))) = .int .u8 (101 + (k : Int) - (l.length : Int)) := by
          have hml := HML.out
          unfold B
          rw [ofNat_toNat' (by omega)]
          congr 1
          omega
        rw [hB] at hset
        have b2 : ¬ (k : Int) < (l.length : Int) := by omega
        have b3 : 0 ≤ 101 + (k : Int) - (l.length : Int) := by omega
        have b4 : 101 + (k : Int) - (l.length : Int) ≤ 255 := by have := HML.out; omega
        have HSET := Lib.hid hset
        clear hset hdr hb' hcl hB
        go_wp2_with fail
        go_roundw
        case rel => exact ⟨k + 1, by omega, by go_num, HSET.out, hkr.setCell (.inr (Nat.le_refl _)) _⟩
        case measure => simp [intOf]; omega
    · have e : k = M := by omega
      subst e
      have hT2 : T.take k ++ ZL.drop k = T := by rw [List.take_of_length_le (by rw [HTL.out]; exact Nat.le_refl _), List.drop_of_length_le (by rw [HZL.out, HTL.out]; exact Nat.le_refl _), List.append_nil]
      rw [hT2] at hdr
      have HDR := Lib.hid hdr
      clear hdr hT2
      go_wp2_with fail
      go_ret
      refine ⟨w.heap.size, rfl, Nat.le_refl _, ?_, hkr⟩
      rw [← HT.out]
      have h := owns_own HDR.out (by rw [HTL.out]; omega)
      rw [HTL.out] at h
      exact h


set_option maxRecDepth 100000 in
set_option maxHeartbeats 1600000 in
theorem decoded_any {w : World} {a : Option Addr} {c : Nat} {l : List UInt8} (hv : BytesAt w (.slice a l.length c) l) (hl : l.length ≤ 2097152) (n : Nat) (hn : n ≤ l.length) (hn2 : n ≤ 2097152) :
    Calls Try.prog 19 #[.slice a l.length c, .int .i64 n] w fun e w' => e = .returned (.bool true) ∧ Keeps [] w w' := by
  obtain ⟨_, _, hvv, hc1, hm⟩ := hv.form
  injection hvv with q1 _ q3
  subst q1 q3
  unfold maxLen at hm
  obtain ⟨Z, hZ⟩ : ∃ Z, Z = (pfCells pf0 (.slice none 0 0) (.slice none 0 0)) := ⟨_, rfl⟩
  have hal := fun (w : World) => run_alloc (P := Try.prog) w info_proof
  rw [zProof_cells, show (⟨false, [], List.replicate 32 0, []⟩ : Pf) = pf0 from rfl, ← hZ] at hal
  have hzl : Z.length = 35 := by rw [hZ]; exact pf_length (by simp [pf0, zero32]) _ _
  have hf := bytes_front2 hv hn
  have hft : (l.take n).length = n := by rw [List.length_take]; omega
  have HAL := Lib.hid hal
  have HZL := Lib.hid hzl
  have HV := Lib.hid hv
  have HF := Lib.hid hf
  have HFT := Lib.hid hft
  have hcb := copyBytes_any hv hl
  have HCB := Lib.hid hcb
  have hnc : (n : Int) ≤ (c : Int) := by omega
  have hn0 : (0 : Int) ≤ (n : Int) := by omega
  clear hZ hal hzl hv hf hft hcb
  go_enter Try.func19, Try.ntmps19
  go_wp2_with fail
  refine HCB.out.mono ?_
  rintro e w1 ⟨v1, rfl, hO1, _, hk1⟩
  have hcb2 := copyBytes_any (HF.out.keeps hk1 (by simp)) (by rw [HFT.out]; omega)
  have HCB2 := Lib.hid hcb2
  have HO1 := Lib.hid hO1
  clear hcb2 hO1
  go_wp2_with fail
  refine HCB2.out.mono ?_
  rintro e w2 ⟨v2, rfl, hO2, _, hk2⟩
  have K2 := hk1.trans (G := []) hk2 (by simp)
  have HF2 := Lib.hid (HF.out.keeps K2 (by simp))
  have HO2 := Lib.hid hO2
  clear hO2
  obtain ⟨p, code, hD, hR⟩ : ∃ (p : Pf) (code : Int), (∀ (wx : World) (v : Value), BytesAt wx v (l.take n) → Calls Try.prog 13 #[v] wx fun e w' => ∃ u, e = .returned (.tuple #[u, .int .i64 code]) ∧ PfIn w' u p ∧ Keeps [] wx w') ∧ (∀ (wx : World) (v : Value), BytesAt wx v (l.take n) → Calls Try.prog 25 #[v] wx fun e w' => ∃ u, e = .returned (.tuple #[u, .int .i64 code]) ∧ PfIn w' u p ∧ Keeps [] wx w') := by
    by_cases h : ∃ q : Pf, q.ok ∧ q.well = true ∧ l.take n = q.enc
    · obtain ⟨q, h1, h2, h3⟩ := h
      refine ⟨q, 0, fun wx v hx => ?_, fun wx v hx => ?_⟩
      · rw [h3] at hx
        exact decode_yes hx h1 h2
      · rw [h3] at hx
        exact refDecode_yes hx h1 h2 (by
          obtain ⟨_, q2, q3⟩ := Pf.well_parts h2
          have := onesOf_le q.bits
          rw [h1.1] at this
          rw [Pf.enc_len h1 h2]
          have : q.head.length ≤ 131 := by unfold Pf.head; split <;> simp; omega
          omega)
    · exact ⟨pf0, 120, fun wx v hx => decode_no hx h, fun wx v hx => refDecode_no hx (by rw [HFT.out]; exact hn2) h⟩
  have HD := Lib.hid (hD w2 _ HF2.out)
  have HRD := Lib.hid hR
  clear hD hR
  go_wp2_with fail
  refine HD.out.mono ?_
  rintro e w3 ⟨u3, rfl, hP3, hk3⟩
  obtain ⟨C3, rfl, hl3, ho3⟩ := hP3.form
  obtain ⟨hst, hhp, hkv⟩ := pf_var (w := w3) hl3 ho3 HZL.out
  obtain ⟨w4, hw4⟩ : ∃ w4, w4 = (w3.alloc (.cells Z.toArray 30 (0, 0))).setCells w3.heap.size 0 C3 := ⟨_, rfl⟩
  rw [← hw4] at hst hhp hkv
  have P4 := hP3.keeps hkv
  have k24 : Keeps [] w2 w4 := hk3.trans (G := []) hkv (by simp)
  have y4 := lt_of_heap hhp
  have HST := Lib.hid hst
  have HHP := Lib.hid hhp
  have HW4 := Lib.hid hw4
  have hr5 := HRD.out w4 _ ((ownB_bytes HO2.out).keeps k24 (by simp))
  have HR5 := Lib.hid hr5
  clear hst hhp hw4 hr5
  go_wp2_with (first | (refine wl_alloc rfl 30 rfl ?_; refine ⟨_, _, HAL.out _, ?_⟩; try simp only [Act.put, List.setIfInBounds_toArray, List.set_cons_zero, List.set_cons_succ, List.getElem_toArray, List.getElem_cons_zero, List.getElem_cons_succ]) | (refine wl_store rfl 30 (.tmp 7) (.tmp 22) rfl ?_; refine ⟨_, HST.out, ?_⟩; try simp only [Act.put, List.setIfInBounds_toArray, List.set_cons_zero, List.set_cons_succ, List.getElem_toArray, List.getElem_cons_zero, List.getElem_cons_succ]))
  refine HR5.out.mono ?_
  rintro e w5 ⟨u5, rfl, hP5, hk5⟩
  obtain ⟨C5, rfl, hl5, ho5⟩ := hP5.form
  obtain ⟨hst, hhp, hkv5⟩ := pf_var (w := w5) hl5 ho5 HZL.out
  obtain ⟨w6, hw6⟩ : ∃ w6, w6 = (w5.alloc (.cells Z.toArray 30 (0, 0))).setCells w5.heap.size 0 C5 := ⟨_, rfl⟩
  rw [← hw6] at hst hhp hkv5
  have k46 := hk5.trans (G := []) hkv5 (by simp)
  have P46 := P4.keeps k46
  have P56 := hP5.keeps hkv5
  have h36 := (k46.block _ y4 (by simp)).trans HHP.out
  have R3 := Lib.hid (rangeAt_all h36)
  have R5 := Lib.hid (rangeAt_all hhp)
  have S3 := Lib.hid (size_35 hl3)
  have S5 := Lib.hid (size_35 hl5)
  have HST6 := Lib.hid hst
  have k26 := k24.trans (G := []) k46 (by simp)
  clear hst hhp hw6 h36
  go_wp2_with (first | (refine wl_alloc rfl 30 rfl ?_; refine ⟨_, _, HAL.out _, ?_⟩; try simp only [Act.put, List.setIfInBounds_toArray, List.set_cons_zero, List.set_cons_succ, List.getElem_toArray, List.getElem_cons_zero, List.getElem_cons_succ]) | (refine wl_store rfl 30 (.tmp 9) (.tmp 27) rfl ?_; refine ⟨_, HST6.out, ?_⟩; try simp only [Act.put, List.setIfInBounds_toArray, List.set_cons_zero, List.set_cons_succ, List.getElem_toArray, List.getElem_cons_zero, List.getElem_cons_succ]) | (refine Go.BigFrame.wpList_want (by rfl) fun K hK => wp_load_mid 30 (.tmp 7) rfl w3.heap.size 0 (by rfl) C3 _ R3.out Try.underlying30 rfl S3.out (hK _ _ ?_)) | (refine Go.BigFrame.wpList_want (by rfl) fun K hK => wp_load_mid 30 (.tmp 9) rfl w5.heap.size 0 (by rfl) C5 _ R5.out Try.underlying30 rfl S5.out (hK _ _ ?_)))
  refine (sameProof_true P46 P56).mono ?_
  rintro e w7 ⟨rfl, hk7⟩
  have k27 := k26.trans (G := []) hk7 (by simp)
  have k17 := hk2.trans (G := []) k27 (by simp)
  have K7 := K2.trans (G := []) k27 (by simp)
  have cS := sameBytes_any (HV.out.keeps K7 (by simp)) ((ownB_bytes HO1.out).keeps k17 (by simp))
  rw [beq_self_eq_true] at cS
  have CS := Lib.hid cS
  clear cS
  go_wp2_with fail
  refine CS.out.mono ?_
  rintro e w8 ⟨rfl, hk8⟩
  go_wp2_with fail
  go_ret
  exact ⟨rfl, K7.trans (G := []) hk8 (by simp)⟩
end Go.Proofs.Ytnobhfpjchofpaa
