/-
  ledgerref4: Counts.
-/
import Derived.Test.YtbjffjplpnnhoaaRfH
import Derived.Deep.DeepCutAuto
namespace Go.Proofs.Ytbjffjplpnnhoaa
set_option linter.unusedVariables false
set_option linter.unusedSimpArgs false
open Go.RowKit

def cntK (k : Nat) (l : List Ev) : Nat := (l.filter fun e => e.kind == k).length
theorem cntK_take (c : Nat) (l : List Ev) {k : Nat} (hk : k < l.length) : cntK c (l.take (k + 1)) = cntK c (l.take k) + if l[k].kind = c then 1 else 0 := by
  unfold cntK
  rw [List.take_succ_eq_append_getElem hk, List.filter_append, List.length_append]
  by_cases h : l[k].kind = c <;> simp [h]
theorem cntK_le (c : Nat) (l : List Ev) : cntK c l ≤ l.length := List.length_filter_le _ _
theorem built_counts (x n : Int) : Try.prog.built 56 [(0, .int .i64 x), (3, .int .i64 n)] = some #[.int .i64 x, .int .i64 0, .int .i64 0, .int .i64 n] := by kernel_rfl

theorem info_tally : (Try.prog.info? 56).map (fun i => (i.zero, i.size, i.bytes)) = some (some (.agg #[.int .i64 0, .int .i64 0, .int .i64 0, .int .i64 0]), 4, 32) := by kernel_rfl
theorem tally_store (w : World) (x n : Int) :
    (Instr.storeAt 56 (.pointer (some ⟨w.heap.size, 0, none⟩)) (.agg #[.int .i64 x, .int .i64 0, .int .i64 0, .int .i64 n])).run Try.prog (w.alloc (.cells #[.int .i64 0, .int .i64 0, .int .i64 0, .int .i64 0] 56 (0, 0))) =
      .ok () ((w.alloc (.cells #[.int .i64 0, .int .i64 0, .int .i64 0, .int .i64 0] 56 (0, 0))).setCells w.heap.size 0 [.int .i64 x, .int .i64 0, .int .i64 0, .int .i64 n]) ∧
    ((w.alloc (.cells #[.int .i64 0, .int .i64 0, .int .i64 0, .int .i64 0] 56 (0, 0))).setCells w.heap.size 0 [.int .i64 x, .int .i64 0, .int .i64 0, .int .i64 n]).heap[w.heap.size]? = some (.cells #[.int .i64 x, .int .i64 0, .int .i64 0, .int .i64 n] 56 (0, 0)) := by
  have hb : (w.alloc (.cells #[.int .i64 0, .int .i64 0, .int .i64 0, .int .i64 0] 56 (0, 0))).heap[w.heap.size]? = some (.cells ([.int .i64 0, .int .i64 0, .int .i64 0, .int .i64 0] : List Value).toArray 56 (0, 0)) := heap_new_at rfl
  have h := run_storeAt_mid (P := Try.prog) _ w.heap.size 0 56 #[.int .i64 x, .int .i64 0, .int .i64 0, .int .i64 n] (there_all hb 0 _ (by simp)) (by kernel_rfl) (by simp [Value.oneCell'])
  refine ⟨by simpa using h, ?_⟩
  have h2 := heap_setCells_same w.heap.size 56 [.int .i64 x, .int .i64 0, .int .i64 0, .int .i64 n] 0 _ _ hb (by simp)
  rw [h2]
  rfl

set_option maxRecDepth 100000 in
set_option maxHeartbeats 1600000 in
theorem rfCounts_any {w : World} {b : Nat} {r : R} {F : List Nat} (h : RefAt w b r F) (hq : r.log.length < 4294967296) (hk4 : ∀ e ∈ r.log, e.kind = 1 ∨ e.kind = 2 ∨ e.kind = 3 ∨ e.kind = 4) {n : Nat} (hn : openN r.log = n) :
    Calls Try.prog 51 #[.pointer (some ⟨b, 0, none⟩)] w fun e w' => e = .returned (.agg #[.int .i64 r.seen, .int .i64 (cntK 1 r.log), .int .i64 (cntK 2 r.log), .int .i64 n]) ∧ Keeps [] w w' := by
  have hRA := fun (wx : World) (hk : Keeps [] w wx) => h.keep (w' := wx) (fun k hkF => hk.block k (h.lt k hkF) (by simp))
  have hCO := fun (wx : World) (hk : Keeps [] w wx) => rfOpen_any (hRA wx hk) hq hk4 hn
  obtain ⟨bv, lv, dvs, hI, rfl⟩ := h
  obtain ⟨al, cl, rfl⟩ := hI.lform
  have hIA := fun (wx : World) (hk : Keeps [] w wx) => hI.keep (w' := wx) (fun k hkF => hk.block k (hI.lt k hkF) (by simp))
  have HIA := Lib.hid hIA
  have HCO := Lib.hid hCO
  have HK4 := Lib.hid hk4
  have hbl := lt_of_heap hI.root
  obtain ⟨w1, hw1⟩ : ∃ w1, w1 = w.alloc (.cells #[.int .i64 0, .int .i64 0, .int .i64 0, .int .i64 0] 56 (0, 0)) := ⟨_, rfl⟩
  have hk1 : Keeps [] w w1 := by rw [hw1]; exact (Keeps.refl _ _).alloc _
  have hb0 : w1.heap[w.heap.size]? = some (.cells #[.int .i64 0, .int .i64 0, .int .i64 0, .int .i64 0] 56 (0, 0)) := by rw [hw1]; exact heap_new_at rfl
  have HW1 := Lib.hid hw1
  have HK1 := Lib.hid hk1
  have HB0 := Lib.hid hb0
  have c5 := (hIA w1 hk1).cells.2.2.2.2.2
  clear hI hIA hCO hRA hk4 hn hw1 hk1 hb0
  go_enter Try.func51, Try.ntmps51
  go_upto_region 1 with fail
  rw [← HW1.out]
  go_cut [3] (fun s wx => ∃ g, s = .pointer (some ⟨g, 0, none⟩) ∧ w1.heap.size ≤ g ∧ wx.heap[g]? = some (.cells #[.int .i64 r.seen, .int .i64 0, .int .i64 0, .int .i64 n] 56 (0, 0)) ∧ Keeps [] w1 wx)
  case first =>
    have kd := (Keeps.refl [] w1).drew
    have cA := Lib.hid (HCO.out w1.drew (HK1.out.drew))
    have cB := Lib.hid (HCO.out (w1.drew.alloc (.cells #[.int .i64 0, .int .i64 0, .int .i64 0, .int .i64 0] 56 (0, 0))) (HK1.out.drew.alloc _))
    have hb1 : b < w1.heap.size := by have := HK1.out.size; omega
    have hal := fun (w : World) => run_alloc (P := Try.prog) w info_tally
    have HALT := Lib.hid hal
    obtain ⟨hs1, hs2⟩ := tally_store w1.drew r.seen n
    have HS1 := Lib.hid hs1
    have HS2 := Lib.hid hs2
    have hbc := fun w => run_build (P := Try.prog) w _ _ _ (built_counts r.seen n)
    have HBC := Lib.hid hbc
    have hcz : (w1.drew.alloc (.cells #[.int .i64 0, .int .i64 0, .int .i64 0, .int .i64 0] 56 (0, 0))).cell? ⟨b, 5, none⟩ = some (.int .i64 r.seen) := (World.cell?_of_block (w := w1) (a := ⟨b, 5, none⟩) (heap_old_at (w := w1.drew) (by simpa using hb1))).trans c5
    have hcs : ((w1.drew.alloc (.cells #[.int .i64 0, .int .i64 0, .int .i64 0, .int .i64 0] 56 (0, 0))).setCells w1.drew.heap.size 0 [.int .i64 r.seen, .int .i64 0, .int .i64 0, .int .i64 n]).cell? ⟨b, 5, none⟩ = some (.int .i64 r.seen) := (World.cell?_of_block (w := w1.drew.alloc (.cells #[.int .i64 0, .int .i64 0, .int .i64 0, .int .i64 0] 56 (0, 0))) (a := ⟨b, 5, none⟩) (heap_setCells_other _ _ _ (by simp; omega) _ _)).trans hcz
    have hks : Keeps [] w1 ((w1.drew.alloc (.cells #[.int .i64 0, .int .i64 0, .int .i64 0, .int .i64 0] 56 (0, 0))).setCells w1.drew.heap.size 0 [.int .i64 r.seen, .int .i64 0, .int .i64 0, .int .i64 n]) := (((Keeps.refl [] w1).drew).alloc _).setCells (.inr (by simp)) _ _
    have HKS := Lib.hid hks
    clear hal hs1 hs2 hbc hks
    refine wp_region_held_drew (S := (fun w' => w'.cell? ⟨b, 5, none⟩ = some (.int .i64 r.seen))) (by kernel_rfl) ?_ (fun hHeld => ?_)
    · exact c5
    refine' wpAnyH_take (i := 0) (v := _) rfl (by kernel_rfl) (by kernel_rfl) (by kernel_rfl) (fun _ _ _ h => h) (Or.inl ⟨by rfl, ?_⟩) (by assumption) ?_
    rotate_left 1
    · (intro w0 hSw; (try dsimp only at hSw); go_split_ands; go_simp; (try with_reducible rfl))
    try simp only [Act.put, List.setIfInBounds_toArray, List.set_cons_zero, List.set_cons_succ, List.getElem_toArray, List.getElem_cons_zero, List.getElem_cons_succ]
    refine' wpAnyH_take (i := 1) (v := _) rfl (by kernel_rfl) (by kernel_rfl) (by kernel_rfl) (fun _ _ _ h => h) (Or.inl ⟨by rfl, ?_⟩) (by assumption) ?_
    rotate_left 1
    · (intro w0 hSw; (try dsimp only at hSw); go_split_ands; go_simp; (try with_reducible rfl))
    try simp only [Act.put, List.setIfInBounds_toArray, List.set_cons_zero, List.set_cons_succ, List.getElem_toArray, List.getElem_cons_zero, List.getElem_cons_succ]
    refine' wpAnyH_take (i := 2) (v := _) rfl (by kernel_rfl) (by kernel_rfl) (by kernel_rfl) (fun _ _ _ h => h) (Or.inl ⟨by rfl, ?_⟩) (by assumption) ?_
    rotate_left 1
    · (intro w0 hSw; (try dsimp only at hSw); go_split_ands; go_simp; (try with_reducible rfl))
    try simp only [Act.put, List.setIfInBounds_toArray, List.set_cons_zero, List.set_cons_succ, List.getElem_toArray, List.getElem_cons_zero, List.getElem_cons_succ]
    refine' wpAnyH_take (i := 3) (v := _) rfl (by kernel_rfl) (by kernel_rfl) (by kernel_rfl) (fun _ _ _ h => h) (Or.inl ⟨by rfl, ?_⟩) (by assumption) ?_
    rotate_left 1
    · (intro w0 hSw; (try dsimp only at hSw); go_split_ands; go_simp; (try with_reducible rfl))
    try simp only [Act.put, List.setIfInBounds_toArray, List.set_cons_zero, List.set_cons_succ, List.getElem_toArray, List.getElem_cons_zero, List.getElem_cons_succ]
    refine' wpAnyH_take (i := 4) (v := _) rfl (by kernel_rfl) (by kernel_rfl) (by kernel_rfl) (fun _ _ _ h => h) (Or.inl ⟨by rfl, ?_⟩) (by assumption) ?_
    rotate_left 1
    · (intro w0 hSw; (try dsimp only at hSw); go_split_ands; go_simp; (try with_reducible rfl))
    try simp only [Act.put, List.setIfInBounds_toArray, List.set_cons_zero, List.set_cons_succ, List.getElem_toArray, List.getElem_cons_zero, List.getElem_cons_succ]
    refine wpAnyH_ready (rs := [5, 7]) (by kernel_rfl) (by simp) ?_
    refine AllReadyH.cons rfl (fun K hK => ?_) (AllReadyH.cons rfl (fun K hK => ?_) AllReadyH.nil)
    · go_simp
      refine cA.out.mono ?_
      rintro e w' ⟨rfl, rfl⟩
      refine hK.out _ _ ?_ (fun hHeld => ?_)
      · exact c5
      clear hK K
      try simp only [Act.put, List.setIfInBounds_toArray, List.set_cons_zero, List.set_cons_succ, List.getElem_toArray, List.getElem_cons_zero, List.getElem_cons_succ]
      refine' wpAnyH_take (i := 6) (v := _) rfl (by kernel_rfl) (by kernel_rfl) (by kernel_rfl) (fun _ _ _ h => h) (yieldsIf_build (by rfl) 56 _ _ rfl (by simp [Act.eval]) (fun w => HBC.out w)) (by assumption) ?_
      try simp only [Act.put, List.setIfInBounds_toArray, List.set_cons_zero, List.set_cons_succ, List.getElem_toArray, List.getElem_cons_zero, List.getElem_cons_succ]
      refine wpAnyH_ready (rs := [7]) (by kernel_rfl) (by simp) ?_
      refine AllReadyH.cons rfl (fun K hK => ?_) AllReadyH.nil
      (refine st_alloc rfl 56 rfl ?_; refine ⟨_, _, HALT.out _, ?_⟩; try simp only [Act.put, List.setIfInBounds_toArray, List.set_cons_zero, List.set_cons_succ, List.getElem_toArray, List.getElem_cons_zero, List.getElem_cons_succ])
      refine hK.out _ _ ?_ (fun hHeld => ?_)
      · exact hcz
      clear hK K
      try simp only [Act.put, List.setIfInBounds_toArray, List.set_cons_zero, List.set_cons_succ, List.getElem_toArray, List.getElem_cons_zero, List.getElem_cons_succ]
      refine wpAnyH_ready (rs := [8]) (by kernel_rfl) (by simp) ?_
      refine AllReadyH.cons rfl (fun K hK => ?_) AllReadyH.nil
      (refine st_store rfl 56 (.tmp 3) (.tmp 11) rfl ?_; refine ⟨_, HS1.out, ?_⟩; try simp only [Act.put, List.setIfInBounds_toArray, List.set_cons_zero, List.set_cons_succ, List.getElem_toArray, List.getElem_cons_zero, List.getElem_cons_succ])
      refine hK.out _ _ ?_ (fun hHeld => ?_)
      · exact hcs
      clear hK K
      try simp only [Act.put, List.setIfInBounds_toArray, List.set_cons_zero, List.set_cons_succ, List.getElem_toArray, List.getElem_cons_zero, List.getElem_cons_succ]
      refine wpAnyH_done (by kernel_rfl) ?_ _
      go_wp2_with fail
      go_meet
      case rel => exact ⟨_, rfl, Nat.le_refl _, HS2.out, HKS.out⟩
    · (refine st_alloc rfl 56 rfl ?_; refine ⟨_, _, HALT.out _, ?_⟩; try simp only [Act.put, List.setIfInBounds_toArray, List.set_cons_zero, List.set_cons_succ, List.getElem_toArray, List.getElem_cons_zero, List.getElem_cons_succ])
      refine hK.out _ _ ?_ (fun hHeld => ?_)
      · exact hcz
      clear hK K
      try simp only [Act.put, List.setIfInBounds_toArray, List.set_cons_zero, List.set_cons_succ, List.getElem_toArray, List.getElem_cons_zero, List.getElem_cons_succ]
      refine wpAnyH_ready (rs := [5]) (by kernel_rfl) (by simp) ?_
      refine AllReadyH.cons rfl (fun K hK => ?_) AllReadyH.nil
      go_simp
      refine cB.out.mono ?_
      rintro e w' ⟨rfl, rfl⟩
      refine hK.out _ _ ?_ (fun hHeld => ?_)
      · exact hcz
      clear hK K
      try simp only [Act.put, List.setIfInBounds_toArray, List.set_cons_zero, List.set_cons_succ, List.getElem_toArray, List.getElem_cons_zero, List.getElem_cons_succ]
      refine' wpAnyH_take (i := 6) (v := _) rfl (by kernel_rfl) (by kernel_rfl) (by kernel_rfl) (fun _ _ _ h => h) (yieldsIf_build (by rfl) 56 _ _ rfl (by simp [Act.eval]) (fun w => HBC.out w)) (by assumption) ?_
      try simp only [Act.put, List.setIfInBounds_toArray, List.set_cons_zero, List.set_cons_succ, List.getElem_toArray, List.getElem_cons_zero, List.getElem_cons_succ]
      refine wpAnyH_ready (rs := [8]) (by kernel_rfl) (by simp) ?_
      refine AllReadyH.cons rfl (fun K hK => ?_) AllReadyH.nil
      (refine st_store rfl 56 (.tmp 3) (.tmp 11) rfl ?_; refine ⟨_, HS1.out, ?_⟩; try simp only [Act.put, List.setIfInBounds_toArray, List.set_cons_zero, List.set_cons_succ, List.getElem_toArray, List.getElem_cons_zero, List.getElem_cons_succ])
      refine hK.out _ _ ?_ (fun hHeld => ?_)
      · exact hcs
      clear hK K
      try simp only [Act.put, List.setIfInBounds_toArray, List.set_cons_zero, List.set_cons_succ, List.getElem_toArray, List.getElem_cons_zero, List.getElem_cons_succ]
      refine wpAnyH_done (by kernel_rfl) ?_ _
      go_wp2_with fail
      go_meet
      case rel => exact ⟨_, rfl, Nat.le_refl _, HS2.out, HKS.out⟩
  case rest =>
    obtain ⟨g, rfl, hg0, hgh, hkc⟩ := hcut
    have HKC := Lib.hid hkc
    have HGH := Lib.hid hgh
    clear hgh hkc c5
    go_wp2_with fail
    go_loopw [4] (fun i wr => ∃ k : Nat, k ≤ r.log.length ∧ i = .int .i64 k ∧ wr.heap[g]? = some (.cells #[.int .i64 r.seen, .int .i64 (cntK 1 (r.log.take k) : Nat), .int .i64 (cntK 2 (r.log.take k) : Nat), .int .i64 n] 56 (0, 0)) ∧ Keeps [] w1 wr) (fun i _ => r.log.length - (intOf i).toNat)
    case atStart => exact ⟨0, Nat.zero_le _, rfl, HGH.out, HKC.out⟩
    case round =>
      obtain ⟨k, hk, rfl, hgh, hkr⟩ := hrel
      have h1le := cntK_le 1 (r.log.take k)
      have h2le := cntK_le 2 (r.log.take k)
      rw [List.length_take] at h1le h2le
      have hIw := HIA.out wr (HK1.out.trans (G := []) hkr (by simp))
      obtain ⟨c0, c1, c2, c3, c4, c5⟩ := hIw.cells
      obtain ⟨W, hW⟩ : ∃ W, W = cntK 1 (r.log.take k) := ⟨_, rfl⟩
      obtain ⟨S, hS⟩ : ∃ S, S = cntK 2 (r.log.take k) := ⟨_, rfl⟩
      rw [← hW] at hgh h1le
      rw [← hS] at hgh h2le
      have g0 : wr.cell? ⟨g, 0, none⟩ = some (.int .i64 r.seen) := by rw [cell_of_row wr g 0 _ _ _ hgh]; rfl
      have g1 : wr.cell? ⟨g, 1, none⟩ = some (.int .i64 W) := by rw [cell_of_row wr g 1 _ _ _ hgh]; rfl
      have g2 : wr.cell? ⟨g, 2, none⟩ = some (.int .i64 S) := by rw [cell_of_row wr g 2 _ _ _ hgh]; rfl
      have g3 : wr.cell? ⟨g, 3, none⟩ = some (.int .i64 n) := by rw [cell_of_row wr g 3 _ _ _ hgh]; rfl
      have fr := fun j => frozen_of_row wr g j _ _ hgh
      have fr1 := fr 1
      have fr2 := fr 2
      have HW := Lib.hid hW
      have HS := Lib.hid hS
      have HKR := Lib.hid hkr
      have HGH := Lib.hid hgh
      by_cases hlt : k < r.log.length
      · obtain ⟨gl, cap, dv, hlv, hdv, _, hrg, hgl⟩ := hIw.ev hlt
        injection hlv with e1 _ e3
        subst e1 e3
        have hcell := hrg 0 (.int .i64 r.log[k].kind) rfl
        rw [Nat.add_zero] at hcell
        have hs1 := cntK_take 1 r.log hlt
        have hs2 := cntK_take 2 r.log hlt
        rw [← HW.out] at hs1
        rw [← HS.out] at hs2
        have hkd := HK4.out _ (List.getElem_mem hlt)
        obtain ⟨kd, hkd2⟩ : ∃ kd, kd = r.log[k].kind := ⟨_, rfl⟩
        rw [← hkd2] at hcell hs1 hs2 hkd
        have HS1 := Lib.hid hs1
        have HS2 := Lib.hid hs2
        have k0 : (0 : Int) ≤ (k : Int) := by omega
        have k1 : (k : Int) < (r.log.length : Int) := by omega
        clear hs1 hs2 hkd2 hrg hdv hW hS hkr hgh fr hIw
        rcases hkd with rfl | rfl | rfl | rfl
        all_goals simp only [show ((1 : Nat) : Int) = 1 from rfl, show ((2 : Nat) : Int) = 2 from rfl, show ((3 : Nat) : Int) = 3 from rfl, show ((4 : Nat) : Int) = 4 from rfl] at hcell
        · go_wp2_with fail
          go_roundw
          case rel =>
            refine ⟨k + 1, by omega, by go_num, ?_, HKR.out.setCell (.inr hg0) _⟩
            rw [HS1.out, HS2.out, heap_setCell_same wr g 1 _ _ _ HGH.out]
            rfl
          case measure => simp [intOf]; omega
        · go_wp2_with fail
          go_roundw
          case rel =>
            refine ⟨k + 1, by omega, by go_num, ?_, HKR.out.setCell (.inr hg0) _⟩
            rw [HS1.out, HS2.out, heap_setCell_same wr g 2 _ _ _ HGH.out]
            rfl
          case measure => simp [intOf]; omega
        · go_wp2_with fail
          go_roundw
          case rel => exact ⟨k + 1, by omega, by go_num, by rw [HS1.out, HS2.out]; exact HGH.out, HKR.out⟩
          case measure => simp [intOf]; omega
        · go_wp2_with fail
          go_roundw
          case rel => exact ⟨k + 1, by omega, by go_num, by rw [HS1.out, HS2.out]; exact HGH.out, HKR.out⟩
          case measure => simp [intOf]; omega
      · have k1 : ¬ (k : Int) < (r.log.length : Int) := by omega
        have hz := (hkr.block _ (lt_of_heap HB0.out) (by simp)).trans HB0.out
        have z0 : wr.cell? ⟨w.heap.size, 0, none⟩ = some (.int .i64 0) := by rw [cell_of_row wr _ 0 _ _ _ hz]; rfl
        have z1 : wr.cell? ⟨w.heap.size, 1, none⟩ = some (.int .i64 0) := by rw [cell_of_row wr _ 1 _ _ _ hz]; rfl
        have z2 : wr.cell? ⟨w.heap.size, 2, none⟩ = some (.int .i64 0) := by rw [cell_of_row wr _ 2 _ _ _ hz]; rfl
        have z3 : wr.cell? ⟨w.heap.size, 3, none⟩ = some (.int .i64 0) := by rw [cell_of_row wr _ 3 _ _ _ hz]; rfl
        have y0 := frozen_of_row wr w.heap.size 0 _ _ hz
        have y1 := frozen_of_row wr w.heap.size 1 _ _ hz
        have y2 := frozen_of_row wr w.heap.size 2 _ _ hz
        have y3 := frozen_of_row wr w.heap.size 3 _ _ hz
        have eW : W = cntK 1 r.log := by rw [HW.out, show k = r.log.length from by omega, List.take_length]
        have eS : S = cntK 2 r.log := by rw [HS.out, show k = r.log.length from by omega, List.take_length]
        have EW := Lib.hid eW
        have ES := Lib.hid eS
        have HZ := Lib.hid hz
        clear eW eS hW hS hz hgh hkr fr hIw
        go_wp2_with fail
        have u1 := heap_setCell_same wr w.heap.size 0 _ _ (Value.int .i64 r.seen) HZ.out
        have u2 := heap_setCell_same _ w.heap.size 1 _ _ (Value.int .i64 W) u1
        have u3 := heap_setCell_same _ w.heap.size 2 _ _ (Value.int .i64 S) u2
        have u4 := heap_setCell_same _ w.heap.size 3 _ _ (Value.int .i64 n) u3
        have hk2 : Keeps [] w wr := HK1.out.trans (G := []) HKR.out (by simp)
        have hk3 := (((hk2.setCell (p := ⟨w.heap.size, 0, none⟩) (.inr (Nat.le_refl _)) (.int .i64 r.seen)).setCell (p := ⟨w.heap.size, 1, none⟩) (.inr (Nat.le_refl _)) (.int .i64 W)).setCell (p := ⟨w.heap.size, 2, none⟩) (.inr (Nat.le_refl _)) (.int .i64 S)).setCell (p := ⟨w.heap.size, 3, none⟩) (.inr (Nat.le_refl _)) (.int .i64 n)
        generalize ((((wr.setCell ⟨w.heap.size, 0, none⟩ (.int .i64 r.seen)).setCell ⟨w.heap.size, 1, none⟩ (.int .i64 W)).setCell ⟨w.heap.size, 2, none⟩ (.int .i64 S)).setCell ⟨w.heap.size, 3, none⟩ (.int .i64 n)) = wz at *
        have q0 : wz.cell? ⟨w.heap.size, 0, none⟩ = some (.int .i64 r.seen) := (cell_of_row wz w.heap.size 0 _ _ _ u4).trans rfl
        have q1 : wz.cell? ⟨w.heap.size, 1, none⟩ = some (.int .i64 W) := (cell_of_row wz w.heap.size 1 _ _ _ u4).trans rfl
        have q2 : wz.cell? ⟨w.heap.size, 2, none⟩ = some (.int .i64 S) := (cell_of_row wz w.heap.size 2 _ _ _ u4).trans rfl
        have q3 : wz.cell? ⟨w.heap.size, 3, none⟩ = some (.int .i64 n) := (cell_of_row wz w.heap.size 3 _ _ _ u4).trans rfl
        refine bodyPost_ret (v := .agg #[.int .i64 r.seen, .int .i64 W, .int .i64 S, .int .i64 n]) (by simp [results, Try.results51, go_sem, Act.eval, q0, q1, q2, q3]) rfl ⟨by rw [EW.out, ES.out], hk3⟩
end Go.Proofs.Ytbjffjplpnnhoaa
