/-
  The walk of ledgerlaw12.ProofCuts.
-/
import Derived.Test.YtnobhfpjchofpaaCn
import Derived.Test.YtnobhfpjchofpaaCo
namespace Go.Proofs.Ytnobhfpjchofpaa
set_option linter.unusedVariables false
set_option linter.unusedSimpArgs false
open Go.RowKit

theorem ownsRow_up {w : World} {base b : Nat} {e : TypeId} {size : Nat} {v : Value} {n : Nat} {xs : List Value} (h : w.ownsRow base e size v n xs) (hb : ∀ k, v.ownBlock = some k → b ≤ k) : w.ownsRow b e size v n xs := by
  obtain ⟨h1, h2⟩ := h
  refine ⟨h1, ?_⟩
  rcases h2 with h2 | ⟨g, cap, cur, hv, hg, r⟩
  · exact .inl h2
  · exact .inr ⟨g, cap, cur, hv, hb g (by rw [hv]; rfl), r⟩
theorem ownB_set {w : World} {g n cap : Nat} {l : List UInt8} (h : OwnB w (.slice (some ⟨g, 0, none⟩) n cap) l) (x r) (hl : l = x :: r) (m : UInt8) : OwnB (w.setCell ⟨g, 0, none⟩ (B m)) (.slice (some ⟨g, 0, none⟩) n cap) (m :: r) := by
  have h2 := h.set 0 (by rw [hl]; simp) m
  rw [hl] at h2
  exact h2

set_option maxRecDepth 100000 in
set_option maxHeartbeats 1600000 in
theorem cuts_walk {w : World} (m : Int) (m0 : 0 ≤ m) (m1 : m ≤ 255) {v1 v2 : Value} {p : Pf} {tl : List UInt8} (h1 : PfIn w v1 p) (h2 : BytesAt w v2 tl) (l1 : p.val.length ≤ 2097152) (l2 : p.sums.length ≤ 2097152) (l3 : tl.length ≤ 2097152) :
    Calls Try.prog 8 #[v1, v2, .int .u8 m] w fun e w' => e = .returned (.bool true) ∧ Keeps [] w w' := by
  obtain ⟨mb, hmb⟩ : ∃ mb : UInt8, m = (mb.toNat : Int) := ⟨UInt8.ofNat m.toNat, by rw [ofNat_toNat' (by omega)]; omega⟩
  subst hmb
  obtain ⟨a2, c2, rfl, hc2, hm2⟩ := h2.form
  unfold maxLen at hm2
  have hok := h1.okp
  obtain ⟨vv0, sv0, hC0, hv0, hs0, hb0, _⟩ := id h1
  obtain ⟨a0, c0, rfl, _⟩ := hs0.form
  obtain ⟨C, hC, hCl, hC1⟩ := h1.form
  subst hC
  have hCe : C = pfCells p vv0 (.slice a0 p.sums.length c0) := by injection hC0 with e; simpa using e
  obtain ⟨Z, hZ⟩ : ∃ Z, Z = (pfCells pf0 (.slice none 0 0) (.slice none 0 0)) := ⟨_, rfl⟩
  have hal := fun (w : World) => run_alloc (P := Try.prog) w info_proof
  rw [zProof_cells, show (⟨false, [], List.replicate 32 0, []⟩ : Pf) = pf0 from rfl, ← hZ] at hal
  have hbz := run_build_zero
  rw [← hZ] at hbz
  have hzl : Z.length = 35 := by rw [hZ]; exact pf_length (by simp [pf0, zero32]) _ _
  have hpz : ∀ wx, PfIn wx (.agg Z.toArray) pf0 := fun wx => ⟨.slice none 0 0, .slice none 0 0, by rw [hZ], BytesAt_nil _, .inl ⟨rfl, none, 0, rfl, by simp [maxLen]⟩, by simp [pf0, zero32], by simp [pf0]⟩
  obtain ⟨wa, hwa⟩ : ∃ wa, wa = w.alloc (.cells C.toArray 30 (0, 0)) := ⟨_, rfl⟩
  have hbx : wa.heap[w.heap.size]? = some (.cells C.toArray 30 (0, 0)) := by rw [hwa, heap_new_at rfl]
  have ka : Keeps [] w wa := by rw [hwa]; exact (Keeps.refl _ _).alloc _
  have y0 := lt_of_heap hbx
  have hrx : ∀ wx, Keeps [] wa wx → wx.rangeAt w.heap.size 0 C := fun wx hk => rangeAt_all ((hk.block _ y0 (by simp)).trans hbx)
  have hp34 : ∀ wx, Keeps [] wa wx → wx.cell? ⟨w.heap.size, 34, none⟩ = some (.slice a0 p.sums.length c0) := fun wx hk => (pf_cells (hCe ▸ (hk.block _ y0 (by simp)).trans hbx) hb0).2.2
  have hpx : ∀ wx, Keeps [] wa wx → PfIn wx (.agg C.toArray) p := fun wx hk => h1.keeps (ka.trans (G := []) hk (by simp))
  have hrw : ∀ wx, Keeps [] wa wx → BytesAt wx (.slice a2 tl.length c2) tl := fun wx hk => h2.keeps (ka.trans (G := []) hk (by simp)) (by simp)
  have HRX := Lib.hid hrx
  have H34 := Lib.hid hp34
  have HPX := Lib.hid hpx
  have HRW := Lib.hid hrw
  have HSZ := Lib.hid (size_35 hCl)
  have HAL := Lib.hid hal
  have HBZ := Lib.hid hbz
  have HZL := Lib.hid hzl
  have HPZ := Lib.hid hpz
  have HWA := Lib.hid hwa
  clear hZ hal hbz hzl hpz hbx hrx hpx hrw hCl hC1 h1 h2 hp34 hCe hC0 hv0 hs0 hb0
  go_enter Try.func8, Try.ntmps8
  have RA := Lib.hid (HRX.out wa (Keeps.refl _ _))
  go_upto_region 1 with fail
  rw [← HWA.out]
  clear hwa
  go_wp2_with (refine wpList_load_mid rfl 30 (.tmp 3) rfl w.heap.size 0 (by rfl) C _ RA.out Try.underlying30 rfl HSZ.out ?_)
  have cW := well_any (HPX.out wa (Keeps.refl _ _))
  by_cases hw : p.well = true
  rotate_left 1
  · rw [Bool.eq_false_iff.2 hw] at cW
    refine cW.mono ?_
    rintro e w1 ⟨rfl, hk1⟩
    go_wp2_with fail
    go_ret
    exact ⟨rfl, ka.trans (G := []) hk1 (by simp)⟩
  rw [hw] at cW
  refine cW.mono ?_
  rintro e w1 ⟨rfl, hk1⟩
  clear cW
  have e34 := H34.out w1 hk1
  by_cases hs8 : 8 < p.sums.length
  · have g8 : decide ((8 : Int) < (p.sums.length : Int)) = true := by simp; omega
    go_wp2_with fail
    go_ret
    exact ⟨rfl, ka.trans (G := []) hk1 (by simp)⟩
  have g8 : decide ((8 : Int) < (p.sums.length : Int)) = false := by simp; omega
  have R1 := Lib.hid (HRX.out w1 hk1)
  go_wp2_with (refine wpList_load_mid rfl 30 (.tmp 3) rfl w.heap.size 0 (by rfl) C _ R1.out Try.underlying30 rfl HSZ.out ?_)
  refine (copyProof_any (HPX.out w1 hk1) l1 l2).mono ?_
  rintro e w2 ⟨v', rfl, hP2, hk2⟩
  have K2 := hk1.trans (G := []) hk2 (by simp)
  clear e34 g8
  go_wp2_with fail
  refine (encode_yes hP2 hw).mono ?_
  rintro e w3 ⟨rv, rfl, hO3, _, hk3⟩
  have K3 := K2.trans (G := []) hk3 (by simp)
  obtain ⟨arv, crv, rfl⟩ := ownB_slice hO3
  obtain ⟨enc, hen⟩ : ∃ enc, enc = p.enc := ⟨_, rfl⟩
  have hel : enc.length ≤ 2097152 := by
    obtain ⟨_, q2, q3⟩ := Pf.well_parts hw
    rw [hen, Pf.enc_len hok hw, ← q3]
    have : p.head.length ≤ 131 := by unfold Pf.head; split <;> simp; omega
    omega
  obtain ⟨ex, er, hex, hex01⟩ := Pf.enc_cons p
  have hcut := fun (n : Nat) (hn : n < p.enc.length) => cut_no hok hw hn
  have hlong := fun (t : List UInt8) (ht : t ≠ []) => long_no hok hw ht
  rw [← hen] at hO3 hex hcut hlong ⊢
  have hdy := decode_yes (p := p) (hen ▸ ownB_bytes hO3) hok hw
  rw [← hen] at hdy
  have HDY := Lib.hid hdy
  have HO3 := Lib.hid hO3
  have HEX := Lib.hid hex
  have HCUT := Lib.hid hcut
  have HLONG := Lib.hid hlong
  have HEN := Lib.hid hen
  clear hen hex hcut hlong hdy hO3
  go_wp2_with fail
  refine HDY.out.mono ?_
  rintro e w4 ⟨u4, rfl, hP4, hk4⟩
  obtain ⟨C4, rfl, hl4, ho4⟩ := hP4.form
  obtain ⟨hst, hhp, hkv⟩ := pf_var (w := w4) hl4 ho4 HZL.out
  have K4 := (K3.trans (G := []) hk4 (by simp)).trans (G := []) hkv (by simp)
  have P4 := hP4.keeps hkv
  have R4 := Lib.hid (rangeAt_all hhp)
  have HST4 := Lib.hid hst
  have S4 := Lib.hid (size_35 hl4)
  clear hst hhp
  go_wp2_with (first | (refine wl_alloc rfl 30 rfl ?_; refine ⟨_, _, HAL.out _, ?_⟩; try simp only [Act.put, List.setIfInBounds_toArray, List.set_cons_zero, List.set_cons_succ, List.getElem_toArray, List.getElem_cons_zero, List.getElem_cons_succ]) | (refine wl_store rfl 30 (.tmp 9) (.tmp 39) rfl ?_; refine ⟨_, HST4.out, ?_⟩; try simp only [Act.put, List.setIfInBounds_toArray, List.set_cons_zero, List.set_cons_succ, List.getElem_toArray, List.getElem_cons_zero, List.getElem_cons_succ]))
  clear R4 HST4 S4 P4 hP4 hl4 ho4
  obtain ⟨w5, hw5⟩ : ∃ w5, w5 = (w4.alloc (.cells Z.toArray 30 (0, 0))).setCells w4.heap.size 0 C4 := ⟨_, rfl⟩
  rw [← hw5]
  rw [← hw5] at K4
  have hk35 : Keeps [] w3 w5 := by rw [hw5]; exact (hk4.trans (G := []) hkv (by simp))
  have hraw : ∀ wx, Keeps [] w5 wx → OwnB wx (.slice arv enc.length crv) enc := fun wx hk => ownsRow_keep HO3.out (fun j hj => by
    have h := (World.ownsRow.lt HO3.out j hj).2
    rw [hk.block j (Nat.lt_of_lt_of_le h hk35.size) (by simp), hk35.block j h (by simp)])
  have HRAW := Lib.hid hraw
  obtain ⟨_, _, _, hcr1, hcr2⟩ := (ownB_bytes HO3.out).form
  unfold maxLen at hcr2
  have hcr : enc.length ≤ crv ∧ crv ≤ 9223372036854775807 := by
    rename_i q1 q2 q3
    injection q3 with _ _ q
    omega
  obtain ⟨hcr3, hcr4⟩ := hcr
  have K45 := Lib.hid K4
  clear hraw hw5 hkv K4 hk35 hcr1 hcr2
  go_loopw [11] (fun i wr => ∃ k : Nat, k ≤ enc.length ∧ i = .int .i64 k ∧ Keeps [] w5 wr) (fun i _ => enc.length - (intOf i).toNat)
  case atStart => exact ⟨0, Nat.zero_le _, rfl, Keeps.refl _ _⟩
  case round =>
    obtain ⟨k, hk, rfl, hkr⟩ := hrel
    by_cases hlt : k < enc.length
    · have b0 : (0 : Int) ≤ (k : Int) := by omega
      have b1 : (k : Int) < (enc.length : Int) := by omega
      have b2 : (k : Int) ≤ (crv : Int) := by omega
      have hbf := bytes_front2 (ownB_bytes (HRAW.out wr hkr)) hk
      have HD6 := Lib.hid (decode_no hbf (HCUT.out k (HEN.out ▸ hlt)))
      clear hbf
      go_wp2_with fail
      refine HD6.out.mono ?_
      rintro e w6 ⟨u6, rfl, hP6, hk6⟩
      obtain ⟨C6, rfl, hl6, ho6⟩ := hP6.form
      obtain ⟨hst, hhp, hkv⟩ := pf_var (w := w6) hl6 ho6 HZL.out
      have K6 := (hkr.trans (G := []) hk6 (by simp)).trans (G := []) hkv (by simp)
      have P6 := hP6.keeps hkv
      have R6 := Lib.hid (rangeAt_all hhp)
      have HST6 := Lib.hid hst
      have S6 := Lib.hid (size_35 hl6)
      clear hst hhp
      go_wp2_with (first | (refine wl_alloc rfl 30 rfl ?_; refine ⟨_, _, HAL.out _, ?_⟩; try simp only [Act.put, List.setIfInBounds_toArray, List.set_cons_zero, List.set_cons_succ, List.getElem_toArray, List.getElem_cons_zero, List.getElem_cons_succ]) | (refine wl_store rfl 30 (.tmp 12) (.tmp 58) rfl ?_; refine ⟨_, HST6.out, ?_⟩; try simp only [Act.put, List.setIfInBounds_toArray, List.set_cons_zero, List.set_cons_succ, List.getElem_toArray, List.getElem_cons_zero, List.getElem_cons_succ]) | (refine Go.BigFrame.wpList_want (by rfl) fun K hK => wp_load_mid 30 (.tmp 12) rfl w6.heap.size 0 (by rfl) C6 _ R6.out Try.underlying30 rfl S6.out (hK _ _ ?_)) | (refine Go.BigFrame.wpList_want (by rfl) fun K hK => wp_build 30 #[] #[] rfl (by simp) ⟨_, _, HBZ.out _, hK _ _ ?_⟩))
      refine (sameProof_true P6 (HPZ.out _)).mono ?_
      rintro e w7 ⟨rfl, hk7⟩
      go_wp2_with fail
      go_roundw
      case rel => exact ⟨k + 1, by omega, by go_num, K6.trans (G := []) hk7 (by simp)⟩
      case measure => simp [intOf]; omega
    · obtain ⟨wo, rfl⟩ : ∃ wo : World, wo = wr := ⟨_, rfl⟩
      have hcb := copyBytes_any (ownB_bytes (HRAW.out wo hkr)) hel
      have HCB := Lib.hid hcb
      clear hcb
      go_wp2_with fail
      refine HCB.out.mono ?_
      rintro e w8 ⟨lv, rfl, hO8, hf8, hk8⟩
      have hK8 := hkr.trans (G := []) hk8 (by simp)
      have ho8 : w8.ownsRow wo.heap.size 5 1 lv enc.length ((enc ++ tl.take 0).map B) := by
        rw [List.take_zero, List.append_nil]
        exact ownsRow_up hO8 hf8
      have hs8 := hk8.size
      have hs5 := hkr.size
      have HO8 := Lib.hid ho8
      have HK8 := Lib.hid hK8
      clear hk8 hf8 hO8 hK8 ho8
      go_wp2_with fail
      go_loopw [14, 15] (fun lv i wr => ∃ k : Nat, k ≤ tl.length ∧ i = .int .i64 k ∧ wr.ownsRow wo.heap.size 5 1 lv (enc.length + k) ((enc ++ tl.take k).map B) ∧ Keeps [] w5 wr ∧ wo.heap.size ≤ wr.heap.size) (fun _ i _ => tl.length - (intOf i).toNat)
      case atStart => exact ⟨0, Nat.zero_le _, rfl, HO8.out, HK8.out, hs8⟩
      case round =>
        obtain ⟨k2, hk2, rfl, hown, hkr2, hsz2⟩ := hrel
        have hov := hown.lt
        obtain ⟨OL, hOL⟩ : ∃ OL, OL = (enc ++ tl.take k2).map B := ⟨_, rfl⟩
        rw [← hOL] at hown
        have HOL := Lib.hid hOL
        have HOWN := Lib.hid hown
        have HKR2 := Lib.hid hkr2
        have KA := K45.out.trans (G := []) hkr2 (by simp)
        clear hown hkr2 hOL
        by_cases hlt2 : k2 < tl.length
        · obtain ⟨g2, o2, rfl, hg2, hr2⟩ := (HRW.out wr KA).at (by omega)
          obtain ⟨x, hx⟩ : ∃ x, tl[k2]? = some x := ⟨tl[k2], List.getElem?_eq_getElem hlt2⟩
          have e1 := range_byte (w' := wr) hr2 rfl hx
          have b0 : (0 : Int) ≤ (k2 : Int) := by omega
          have b1 : (k2 : Int) < (tl.length : Int) := by omega
          have hbx : BytesAt (wr.alloc (.cells #[.int .u8 x.toNat] 5 (0, 0))) (.slice (some ⟨wr.heap.size, 0, none⟩) 1 1) [x] := bytes_of_block (l := [x]) (heap_new_at rfl)
          have HX := Lib.hid hx
          have HBX := Lib.hid hbx
          clear hr2 hx hbx
          go_wp2_with (refine wpList_append_bytes rfl (.tmp 76) (.tmp 81) rfl wo.heap.size _ (enc.length + k2) OL (by rfl) (HOWN.out.alloc _) _ [x] (by rfl) HBX.out (by simp; omega) (by simp; omega) ?_)
          intro vn wn hon hgn
          obtain ⟨av, cv, rfl⟩ := owns_slice hon
          have e2 : OL ++ [x].map B = (enc ++ tl.take (k2 + 1)).map B := by
            rw [HOL.out, ← List.map_append, List.append_assoc, List.take_add_one, HX.out]
            rfl
          have hon2 : wn.ownsRow wo.heap.size 5 1 (.slice av (enc.length + k2 + 1) cv) (enc.length + k2 + 1) ((enc ++ tl.take (k2 + 1)).map B) := by
            rw [← e2]
            exact hon
          have hln : (enc ++ tl.take (k2 + 1)).length = enc.length + k2 + 1 := by rw [List.length_append, List.length_take]; omega
          have hbn : BytesAt wn (.slice av (enc.length + k2 + 1) cv) (enc ++ tl.take (k2 + 1)) := by
            refine ownB_bytes ?_
            unfold OwnB
            rw [hln]
            exact ownsRow_base hon2
          have hkn := (HKR2.out.alloc (.cells #[.int .u8 x.toNat] 5 (0, 0))).grown hgn (fun j hj => .inr (by have := (hov j hj).1; omega))
          have hdn := decode_no hbn (HLONG.out (tl.take (k2 + 1)) (fun e => by
            have := congrArg List.length e
            rw [List.length_take, List.length_nil] at this
            omega))
          have hszn := hgn.size
          simp at hszn
          have HDN := Lib.hid hdn
          have HON := Lib.hid hon2
          have HKN := Lib.hid hkn
          clear hon hgn e2 hon2 hbn hkn hdn e1
          go_wp2_with fail
          refine HDN.out.mono ?_
          rintro e w9 ⟨u9, rfl, hP9, hk9⟩
          obtain ⟨C9, rfl, hl9, ho9⟩ := hP9.form
          obtain ⟨hst, hhp, hkv⟩ := pf_var (w := w9) hl9 ho9 HZL.out
          have K9 := (HKN.out.trans (G := []) hk9 (by simp)).trans (G := []) hkv (by simp)
          have P9 := hP9.keeps hkv
          have R9 := Lib.hid (rangeAt_all hhp)
          have HST9 := Lib.hid hst
          have S9 := Lib.hid (size_35 hl9)
          clear hst hhp
          go_wp2_with (first | (refine wl_alloc rfl 30 rfl ?_; refine ⟨_, _, HAL.out _, ?_⟩; try simp only [Act.put, List.setIfInBounds_toArray, List.set_cons_zero, List.set_cons_succ, List.getElem_toArray, List.getElem_cons_zero, List.getElem_cons_succ]) | (refine wl_store rfl 30 (.tmp 16) (.tmp 86) rfl ?_; refine ⟨_, HST9.out, ?_⟩; try simp only [Act.put, List.setIfInBounds_toArray, List.set_cons_zero, List.set_cons_succ, List.getElem_toArray, List.getElem_cons_zero, List.getElem_cons_succ]))
          go_roundw
          case rel =>
            refine ⟨k2 + 1, by omega, by go_num, ?_, K9, by have := hk9.size; have := hkv.size; omega⟩
            refine ownsRow_keep HON.out (fun j hj => ?_)
            have h := (World.ownsRow.lt HON.out j hj).2
            rw [hkv.block j (Nat.lt_of_lt_of_le h hk9.size) (by simp)]
            exact hk9.block j h (by simp)
          case measure => simp [intOf]; omega
        · have hcb := copyBytes_any (ownB_bytes (HRAW.out wr HKR2.out)) hel
          have HCB := Lib.hid hcb
          clear hcb
          go_wp2_with fail
          refine HCB.out.mono ?_
          rintro e w10 ⟨ov, rfl, hO10, hf10, hk10⟩
          have hlen : 0 < enc.length := by rw [HEX.out]; simp
          obtain ⟨g10, c10, rfl, _, _⟩ := World.ownsRow.form hO10 hlen
          have K10 := HKR2.out.trans (G := []) hk10 (by simp)
          have hg10 := hf10 g10 rfl
          have e1 := hO10.cell 0 hlen
          unfold B at e1
          have e2 := hO10.free 0
          have hst := ownB_set hO10 ex er HEX.out mb
          have hel2 : (mb :: er).length = enc.length := by rw [HEX.out]; rfl
          have ll0 : (0 : Int) < (enc.length : Int) := by omega
          have HST10 := Lib.hid hst
          have hk11 := K10.setCell (p := ⟨g10, 0, none⟩) (.inr (show w5.heap.size ≤ g10 from Nat.le_trans HKR2.out.size hg10)) (B mb)
          have hb10 := ownB_bytes hst
          unfold B at hb10 hk11
          clear hst hO10 hf10
          by_cases hm2 : mb.toNat < 2
          · have hd := decode_any hb10
            have HD := Lib.hid hd
            have gl : ((mb.toNat : Int) < 2) := by omega
            clear hd hb10
            go_wp2_with fail
            refine HD.out.mono ?_
            rintro e w12 ⟨u12, n12, rfl, ⟨p12, hP12⟩, hk12⟩
            obtain ⟨C12, rfl, hl12, ho12⟩ := hP12.form
            obtain ⟨hst, hhp, hkv⟩ := pf_var (w := w12) hl12 ho12 HZL.out
            have K12 := (hk11.trans (G := []) hk12 (by simp)).trans (G := []) hkv (by simp)
            have P12 := hP12.keeps hkv
            have R12 := Lib.hid (rangeAt_all hhp)
            have HST12 := Lib.hid hst
            have S12 := Lib.hid (size_35 hl12)
            clear hst hhp
            go_wp2_with (first | (refine wl_alloc rfl 30 rfl ?_; refine ⟨_, _, HAL.out _, ?_⟩; try simp only [Act.put, List.setIfInBounds_toArray, List.set_cons_zero, List.set_cons_succ, List.getElem_toArray, List.getElem_cons_zero, List.getElem_cons_succ]) | (refine wl_store rfl 30 (.tmp 19) (.tmp 98) rfl ?_; refine ⟨_, HST12.out, ?_⟩; try simp only [Act.put, List.setIfInBounds_toArray, List.set_cons_zero, List.set_cons_succ, List.getElem_toArray, List.getElem_cons_zero, List.getElem_cons_succ]))
            go_ret
            exact ⟨rfl, (ka.trans (G := []) K45.out (by simp)).trans (G := []) K12 (by simp)⟩
          · have hd := decode_no hb10 (first_no (fun e => by subst e; simp at hm2) (fun e => by subst e; simp at hm2))
            have HD := Lib.hid hd
            have gl : ¬ ((mb.toNat : Int) < 2) := by omega
            clear hd hb10
            go_wp2_with fail
            refine HD.out.mono ?_
            rintro e w12 ⟨u12, rfl, hP12, hk12⟩
            obtain ⟨C12, rfl, hl12, ho12⟩ := hP12.form
            obtain ⟨hst, hhp, hkv⟩ := pf_var (w := w12) hl12 ho12 HZL.out
            have K12 := (hk11.trans (G := []) hk12 (by simp)).trans (G := []) hkv (by simp)
            have P12 := hP12.keeps hkv
            have R12 := Lib.hid (rangeAt_all hhp)
            have HST12 := Lib.hid hst
            have S12 := Lib.hid (size_35 hl12)
            clear hst hhp
            go_wp2_with (first | (refine wl_alloc rfl 30 rfl ?_; refine ⟨_, _, HAL.out _, ?_⟩; try simp only [Act.put, List.setIfInBounds_toArray, List.set_cons_zero, List.set_cons_succ, List.getElem_toArray, List.getElem_cons_zero, List.getElem_cons_succ]) | (refine wl_store rfl 30 (.tmp 19) (.tmp 98) rfl ?_; refine ⟨_, HST12.out, ?_⟩; try simp only [Act.put, List.setIfInBounds_toArray, List.set_cons_zero, List.set_cons_succ, List.getElem_toArray, List.getElem_cons_zero, List.getElem_cons_succ]))
            go_ret
            exact ⟨rfl, (ka.trans (G := []) K45.out (by simp)).trans (G := []) K12 (by simp)⟩
theorem cuts_law {w : World} (m : Int) (m0 : 0 ≤ m) (m1 : m ≤ 255) {v1 v2 : Value} {p : Pf} {tl : List UInt8} (h1 : PfIn w v1 p) (h2 : BytesAt w v2 tl) (l1 : p.val.length ≤ 2097152) (l2 : p.sums.length ≤ 2097152) (l3 : tl.length ≤ 2097152) :
    Calls Try.prog 8 #[v1, v2, .int .u8 m] w fun e w' => e = .returned (.bool true) ∧ Below w.heap.size w w' := (cuts_walk m m0 m1 h1 h2 l1 l2 l3).mono fun e w' h => ⟨h.1, h.2.below0 (Nat.le_refl _)⟩
end Go.Proofs.Ytnobhfpjchofpaa
