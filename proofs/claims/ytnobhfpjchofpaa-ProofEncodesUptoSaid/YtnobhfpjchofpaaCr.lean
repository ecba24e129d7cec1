/-
  The document's answer for layer 12: Encode.
-/
import Derived.Test.YtnobhfpjchofpaaCq
import Derived.Test.YtnobhfpjchofpaaCg
namespace Go.Proofs.Ytnobhfpjchofpaa
set_option linter.unusedVariables false
set_option linter.unusedSimpArgs false
open Go.RowKit

theorem owns_of_block {w : World} {base b : Nat} {l : List UInt8} (h : w.heap[b]? = some (.cells (l.map B).toArray 5 (0, 0))) (hb : base ≤ b) (hm : l.length ≤ 1099511627776) : w.ownsRow base 5 1 (.slice (some ⟨b, 0, none⟩) l.length l.length) l.length (l.map B) :=
  ⟨by simp, .inr ⟨b, l.length, (l.map B).toArray, rfl, hb, h, Nat.le_refl _, by simp only [maxLen]; omega, by simp, by rw [Nat.mul_one]; exact List.take_of_length_le (by simp)⟩⟩

theorem lit3m {n : Nat} (h : n ≤ 128) : (#[.int .u8 1, .int .u8 ((n : Int) % 256), .int .u8 ((n : Int) / 256)] : Array Value) = (([1, UInt8.ofNat n, 0] : List UInt8).map B).toArray := by
  rw [show (n : Int) % 256 = (n : Int) by omega]
  exact lit3 h

set_option maxRecDepth 100000 in
set_option maxHeartbeats 1600000 in
theorem refEncode_no {w : World} {v : Value} {p : Pf} (hp : PfIn w v p) (hw : p.well = false) :
    Calls Try.prog 24 #[v] w fun e w' => e = .returned (.tuple #[.slice none 0 0, .int .i64 120]) ∧ Keeps [] w w' := by
  obtain ⟨vv, sv, rfl, hv, hs, hb, hd⟩ := hp
  obtain ⟨a1, c1, rfl, hc1, hm1⟩ := hv.form
  obtain ⟨a2, c2, rfl, hc2, hm2⟩ := hs.form
  unfold maxLen at hm1 hm2
  obtain ⟨C, hC⟩ : ∃ C, C = pfCells p (.slice a1 p.val.length c1) (.slice a2 p.sums.length c2) := ⟨_, rfl⟩
  rw [← hC]
  have hcl := fun (wx : World) (hx : wx.heap[w.heap.size]? = some (.cells C.toArray 30 (0, 0))) => And.intro (pf_cells (hC ▸ hx) hb) (pf_bits (hC ▸ hx) hb)
  obtain ⟨wa, hwa⟩ : ∃ wa, wa = w.alloc (.cells C.toArray 30 (0, 0)) := ⟨_, rfl⟩
  have hbx : wa.heap[w.heap.size]? = some (.cells C.toArray 30 (0, 0)) := by rw [hwa, heap_new_at rfl]
  have hka : Keeps [] w wa := by rw [hwa]; exact (Keeps.refl _ _).alloc _
  obtain ⟨fd, hfd⟩ : ∃ fd, fd = p.found := ⟨_, rfl⟩
  rw [← hfd] at hcl
  have y0 := lt_of_heap hbx
  have ht : ∀ wx, Keeps [] wa wx → (wx.cell? ⟨w.heap.size, 0, none⟩ = some (.bool fd) ∧ wx.cell? ⟨w.heap.size, 1, none⟩ = some (Value.slice a1 p.val.length c1) ∧ wx.cell? ⟨w.heap.size, 34, none⟩ = some (Value.slice a2 p.sums.length c2)) ∧ wx.rangeAt w.heap.size 2 (p.bits.map B) := fun wx hk => hcl wx ((hk.block _ y0 (by simp)).trans hbx)
  have HT := Lib.hid ht
  have HW := Lib.hid hwa
  have HFD := Lib.hid hfd
  have HS32 := Lib.hid (size_32_of hb)
  have HB := Lib.hid hb
  have HV := Lib.hid hv
  have HS := Lib.hid hs
  have HD := Lib.hid hd
  have hwell : p.well = ((fd || p.val.length == 0) && decide (p.val.length ≤ 128) && p.sums.length == onesOf p.bits) := by rw [hfd]; rfl
  rw [hw] at hwell
  have HX := Lib.hid hbx
  have hcO := fun (w : World) => refOnes_any (w := w) p.bits hb
  obtain ⟨m, hm⟩ : ∃ m, m = onesOf p.bits := ⟨_, rfl⟩
  rw [← hm] at hwell hcO
  have HCO := Lib.hid hcO
  have HM := Lib.hid hm
  have hbl := onesOf_le p.bits
  rw [hb, ← hm] at hbl
  clear hC hcl hv hs hb hd hfd hw hbx ht hwa hcO hm
  have HWELL := Lib.hid hwell
  clear hwell
  go_enter Try.func24, Try.ntmps24
  go_wp2_with fail
  rw [← HW.out]
  by_cases h2 : fd = false ∧ 0 < p.val.length
  · obtain ⟨rfl, h2⟩ := h2
    have g2 : decide ((0 : Int) < (p.val.length : Int)) = true := by simp; omega
    refine wp_region_held_drew (S := (fun w' => ((w'.cell? ⟨w.heap.size, 0, none⟩ = some (.bool false) ∧ w'.cell? ⟨w.heap.size, 1, none⟩ = some (Value.slice a1 p.val.length c1) ∧ w'.cell? ⟨w.heap.size, 34, none⟩ = some (Value.slice a2 p.sums.length c2)) ∧ w'.rangeAt w.heap.size 2 (p.bits.map B)) ∧ Keeps [] wa w')) (by kernel_rfl) ?_ (fun hHeld => ?_)
    · exact ⟨HT.out _ (Keeps.refl _ _).drew, (Keeps.refl _ _).drew⟩
    refine' wpAnyH_take (i := 0) (v := _) rfl (by kernel_rfl) (by kernel_rfl) (by kernel_rfl) (fun _ _ _ h => h) (Or.inl ⟨by rfl, ?_⟩) (by assumption) ?_
    rotate_left 1
    · (intro w0 hSw; (try dsimp only at hSw); go_split_ands; go_simp; (try with_reducible rfl))
    try simp only [Act.put, List.setIfInBounds_toArray, List.set_cons_zero, List.set_cons_succ, List.getElem_toArray, List.getElem_cons_zero, List.getElem_cons_succ]
    refine' wpAnyH_take (i := 1) (v := _) rfl (by kernel_rfl) (by kernel_rfl) (by kernel_rfl) (fun _ _ _ h => h) (Or.inl ⟨by rfl, ?_⟩) (by assumption) ?_
    rotate_left 1
    · (intro w0 hSw; (try dsimp only at hSw); go_split_ands; go_simp; (try with_reducible rfl))
    try simp only [Act.put, List.setIfInBounds_toArray, List.set_cons_zero, List.set_cons_succ, List.getElem_toArray, List.getElem_cons_zero, List.getElem_cons_succ]
    refine' wpAnyH_take (i := 2) (v := _) rfl (by kernel_rfl) (by kernel_rfl) (by kernel_rfl) (fun _ _ _ h => h) (Or.inl ⟨by rfl, ?_⟩) (by assumption) ?_
    rotate_left 1
    · (intro w0 hSw; (try dsimp only at hSw); go_split_ands; go_simp; (try with_reducible rfl))
    try simp only [Act.put, List.setIfInBounds_toArray, List.set_cons_zero, List.set_cons_succ, List.getElem_toArray, List.getElem_cons_zero, List.getElem_cons_succ]
    refine' wpAnyH_take (i := 3) (v := _) rfl (by kernel_rfl) (by kernel_rfl) (by kernel_rfl) (fun _ _ _ h => h) (Or.inl ⟨by rfl, ?_⟩) (by assumption) ?_
    rotate_left 1
    · (intro w0 hSw; (try dsimp only at hSw); go_split_ands; go_simp; (try with_reducible rfl))
    try simp only [Act.put, List.setIfInBounds_toArray, List.set_cons_zero, List.set_cons_succ, List.getElem_toArray, List.getElem_cons_zero, List.getElem_cons_succ]
    refine' wpAnyH_take (i := 4) (v := _) rfl (by kernel_rfl) (by kernel_rfl) (by kernel_rfl) (fun _ _ _ h => h) (Or.inl ⟨by rfl, ?_⟩) (by assumption) ?_
    rotate_left 1
    · (intro w0 hSw; (try dsimp only at hSw); go_split_ands; go_simp; (try with_reducible rfl))
    try simp only [Act.put, List.setIfInBounds_toArray, List.set_cons_zero, List.set_cons_succ, List.getElem_toArray, List.getElem_cons_zero, List.getElem_cons_succ]
    refine' wpAnyH_take (i := 5) (v := _) rfl (by kernel_rfl) (by kernel_rfl) (by kernel_rfl) (fun _ _ _ h => h) (Or.inl ⟨by rfl, ?_⟩) (by assumption) ?_
    rotate_left 1
    · (intro w0 hSw; (try dsimp only at hSw); go_split_ands; go_simp; (try with_reducible rfl))
    try simp only [Act.put, List.setIfInBounds_toArray, List.set_cons_zero, List.set_cons_succ, List.getElem_toArray, List.getElem_cons_zero, List.getElem_cons_succ]
    refine' wpAnyH_take (i := 6) (v := _) rfl (by kernel_rfl) (by kernel_rfl) (by kernel_rfl) (fun _ _ _ h => h) (Or.inl ⟨by rfl, ?_⟩) (by assumption) ?_
    rotate_left 1
    · (intro w0 hSw; (try dsimp only at hSw); go_split_ands; go_simp; (try with_reducible rfl))
    try simp only [Act.put, List.setIfInBounds_toArray, List.set_cons_zero, List.set_cons_succ, List.getElem_toArray, List.getElem_cons_zero, List.getElem_cons_succ]
    refine' wpAnyH_take (i := 7) (v := _) rfl (by kernel_rfl) (by kernel_rfl) (by kernel_rfl) (fun _ _ _ h => h) (Or.inl ⟨by rfl, ?_⟩) (by assumption) ?_
    rotate_left 1
    · (intro w0 hSw; (try dsimp only at hSw); go_split_ands; go_simp; (try with_reducible rfl))
    try simp only [Act.put, List.setIfInBounds_toArray, List.set_cons_zero, List.set_cons_succ, List.getElem_toArray, List.getElem_cons_zero, List.getElem_cons_succ]
    refine' wpAnyH_take (i := 8) (v := _) rfl (by kernel_rfl) (by kernel_rfl) (by kernel_rfl) (fun _ _ _ h => h) (Or.inl ⟨by rfl, ?_⟩) (by assumption) ?_
    rotate_left 1
    · (intro w0 hSw; (try dsimp only at hSw); go_split_ands; go_simp; (try with_reducible rfl))
    try simp only [Act.put, List.setIfInBounds_toArray, List.set_cons_zero, List.set_cons_succ, List.getElem_toArray, List.getElem_cons_zero, List.getElem_cons_succ]
    refine' wpAnyH_take (i := 9) (v := _) rfl (by kernel_rfl) (by kernel_rfl) (by kernel_rfl) (fun _ _ _ h => h) (Or.inl ⟨by rfl, ?_⟩) (by assumption) ?_
    rotate_left 1
    · (intro w0 hSw; (try dsimp only at hSw); go_split_ands; go_simp; (try with_reducible rfl))
    try simp only [Act.put, List.setIfInBounds_toArray, List.set_cons_zero, List.set_cons_succ, List.getElem_toArray, List.getElem_cons_zero, List.getElem_cons_succ]
    refine' wpAnyH_take (i := 10) (v := undef) rfl (by kernel_rfl) (by kernel_rfl) (by kernel_rfl) (fun _ _ _ h => h) (Or.inr ⟨by rfl, rfl⟩) (by assumption) ?_
    try simp only [Act.put, List.setIfInBounds_toArray, List.set_cons_zero, List.set_cons_succ, List.getElem_toArray, List.getElem_cons_zero, List.getElem_cons_succ]
    refine' wpAnyH_take (i := 11) (v := undef) rfl (by kernel_rfl) (by kernel_rfl) (by kernel_rfl) (fun _ _ _ h => h) (Or.inr ⟨by rfl, rfl⟩) (by assumption) ?_
    try simp only [Act.put, List.setIfInBounds_toArray, List.set_cons_zero, List.set_cons_succ, List.getElem_toArray, List.getElem_cons_zero, List.getElem_cons_succ]
    refine' wpAnyH_take (i := 12) (v := undef) rfl (by kernel_rfl) (by kernel_rfl) (by kernel_rfl) (fun _ _ _ h => h) (Or.inr ⟨by rfl, rfl⟩) (by assumption) ?_
    try simp only [Act.put, List.setIfInBounds_toArray, List.set_cons_zero, List.set_cons_succ, List.getElem_toArray, List.getElem_cons_zero, List.getElem_cons_succ]
    refine' wpAnyH_take (i := 13) (v := undef) rfl (by kernel_rfl) (by kernel_rfl) (by kernel_rfl) (fun _ _ _ h => h) (Or.inr ⟨by rfl, rfl⟩) (by assumption) ?_
    try simp only [Act.put, List.setIfInBounds_toArray, List.set_cons_zero, List.set_cons_succ, List.getElem_toArray, List.getElem_cons_zero, List.getElem_cons_succ]
    refine' wpAnyH_take (i := 14) (v := _) rfl (by kernel_rfl) (by kernel_rfl) (by kernel_rfl) (fun _ _ _ h => h) (Or.inl ⟨by rfl, ?_⟩) (by assumption) ?_
    rotate_left 1
    · (intro w0 hSw; (try dsimp only at hSw); go_split_ands; go_simp; (try with_reducible rfl))
    try simp only [Act.put, List.setIfInBounds_toArray, List.set_cons_zero, List.set_cons_succ, List.getElem_toArray, List.getElem_cons_zero, List.getElem_cons_succ]
    refine' wpAnyH_take (i := 15) (v := _) rfl (by kernel_rfl) (by kernel_rfl) (by kernel_rfl) (fun _ _ _ h => h) (Or.inl ⟨by rfl, ?_⟩) (by assumption) ?_
    rotate_left 1
    · (intro w0 hSw; (try dsimp only at hSw); go_split_ands; go_simp; (try with_reducible rfl))
    try simp only [Act.put, List.setIfInBounds_toArray, List.set_cons_zero, List.set_cons_succ, List.getElem_toArray, List.getElem_cons_zero, List.getElem_cons_succ]
    refine' wpAnyH_take (i := 16) (v := undef) rfl (by kernel_rfl) (by kernel_rfl) (by kernel_rfl) (fun _ _ _ h => h) (Or.inr ⟨by rfl, rfl⟩) (by assumption) ?_
    try simp only [Act.put, List.setIfInBounds_toArray, List.set_cons_zero, List.set_cons_succ, List.getElem_toArray, List.getElem_cons_zero, List.getElem_cons_succ]
    refine' wpAnyH_take (i := 17) (v := undef) rfl (by kernel_rfl) (by kernel_rfl) (by kernel_rfl) (fun _ _ _ h => h) (Or.inr ⟨by rfl, rfl⟩) (by assumption) ?_
    try simp only [Act.put, List.setIfInBounds_toArray, List.set_cons_zero, List.set_cons_succ, List.getElem_toArray, List.getElem_cons_zero, List.getElem_cons_succ]
    refine' wpAnyH_take (i := 18) (v := undef) rfl (by kernel_rfl) (by kernel_rfl) (by kernel_rfl) (fun _ _ _ h => h) (Or.inr ⟨by rfl, rfl⟩) (by assumption) ?_
    try simp only [Act.put, List.setIfInBounds_toArray, List.set_cons_zero, List.set_cons_succ, List.getElem_toArray, List.getElem_cons_zero, List.getElem_cons_succ]
    refine' wpAnyH_take (i := 19) (v := undef) rfl (by kernel_rfl) (by kernel_rfl) (by kernel_rfl) (fun _ _ _ h => h) (Or.inr ⟨by rfl, rfl⟩) (by assumption) ?_
    try simp only [Act.put, List.setIfInBounds_toArray, List.set_cons_zero, List.set_cons_succ, List.getElem_toArray, List.getElem_cons_zero, List.getElem_cons_succ]
    refine' wpAnyH_take (i := 20) (v := undef) rfl (by kernel_rfl) (by kernel_rfl) (by kernel_rfl) (fun _ _ _ h => h) (Or.inr ⟨by rfl, rfl⟩) (by assumption) ?_
    try simp only [Act.put, List.setIfInBounds_toArray, List.set_cons_zero, List.set_cons_succ, List.getElem_toArray, List.getElem_cons_zero, List.getElem_cons_succ]
    refine' wpAnyH_take (i := 21) (v := undef) rfl (by kernel_rfl) (by kernel_rfl) (by kernel_rfl) (fun _ _ _ h => h) (Or.inr ⟨by rfl, rfl⟩) (by assumption) ?_
    try simp only [Act.put, List.setIfInBounds_toArray, List.set_cons_zero, List.set_cons_succ, List.getElem_toArray, List.getElem_cons_zero, List.getElem_cons_succ]
    refine' wpAnyH_take (i := 22) (v := undef) rfl (by kernel_rfl) (by kernel_rfl) (by kernel_rfl) (fun _ _ _ h => h) (Or.inr ⟨by rfl, rfl⟩) (by assumption) ?_
    try simp only [Act.put, List.setIfInBounds_toArray, List.set_cons_zero, List.set_cons_succ, List.getElem_toArray, List.getElem_cons_zero, List.getElem_cons_succ]
    refine' wpAnyH_take (i := 23) (v := _) rfl (by kernel_rfl) (by kernel_rfl) (by kernel_rfl) (fun _ _ _ h => h) (Or.inl ⟨by rfl, ?_⟩) (by assumption) ?_
    rotate_left 1
    · (intro w0 hSw; (try dsimp only at hSw); go_split_ands; go_simp; (try with_reducible rfl))
    try simp only [Act.put, List.setIfInBounds_toArray, List.set_cons_zero, List.set_cons_succ, List.getElem_toArray, List.getElem_cons_zero, List.getElem_cons_succ]
    refine wpAnyH_done (by kernel_rfl) ?_ _
    go_wp2_with fail
    go_ret2
    exact ⟨rfl, hka.drew⟩
  · by_cases h1 : p.val.length ≤ 128
    · have g1 : decide ((128 : Int) < (p.val.length : Int)) = false := by simp; omega
      have g3 : ((p.sums.length : Int) != (m : Int)) = true := by
        have := HWELL.out
        simp only [bne_iff_ne, ne_eq]
        intro e
        have e : p.sums.length = m := by omega
        have e2 : (fd || p.val.length == 0) = true := by
          cases fd
          · have : p.val.length = 0 := Nat.eq_zero_of_not_pos (fun h => h2 ⟨rfl, h⟩)
            rw [this]; rfl
          · rfl
        rw [e2, decide_eq_true h1, e, beq_self_eq_true] at this
        exact absurd this (by decide)
      cases fd
      · have h3 : p.val.length = 0 := Nat.eq_zero_of_not_pos (fun h => h2 ⟨rfl, h⟩)
        have ht2 := HT.out
        rw [h3] at ht2
        have HT2 := Lib.hid ht2
        clear ht2 h3
        refine wp_region_held_drew (S := (fun w' => ((w'.cell? ⟨w.heap.size, 0, none⟩ = some (.bool false) ∧ w'.cell? ⟨w.heap.size, 1, none⟩ = some (Value.slice a1 0 c1) ∧ w'.cell? ⟨w.heap.size, 34, none⟩ = some (Value.slice a2 p.sums.length c2)) ∧ w'.rangeAt w.heap.size 2 (p.bits.map B)) ∧ Keeps [] wa w')) (by kernel_rfl) ?_ (fun hHeld => ?_)
        · exact ⟨HT2.out _ (Keeps.refl _ _).drew, (Keeps.refl _ _).drew⟩
        refine' wpAnyH_take (i := 0) (v := _) rfl (by kernel_rfl) (by kernel_rfl) (by kernel_rfl) (fun _ _ _ h => h) (Or.inl ⟨by rfl, ?_⟩) (by assumption) ?_
        rotate_left 1
        · (intro w0 hSw; (try dsimp only at hSw); go_split_ands; go_simp; (try with_reducible rfl))
        try simp only [Act.put, List.setIfInBounds_toArray, List.set_cons_zero, List.set_cons_succ, List.getElem_toArray, List.getElem_cons_zero, List.getElem_cons_succ]
        refine' wpAnyH_take (i := 1) (v := _) rfl (by kernel_rfl) (by kernel_rfl) (by kernel_rfl) (fun _ _ _ h => h) (Or.inl ⟨by rfl, ?_⟩) (by assumption) ?_
        rotate_left 1
        · (intro w0 hSw; (try dsimp only at hSw); go_split_ands; go_simp; (try with_reducible rfl))
        try simp only [Act.put, List.setIfInBounds_toArray, List.set_cons_zero, List.set_cons_succ, List.getElem_toArray, List.getElem_cons_zero, List.getElem_cons_succ]
        refine' wpAnyH_take (i := 2) (v := _) rfl (by kernel_rfl) (by kernel_rfl) (by kernel_rfl) (fun _ _ _ h => h) (Or.inl ⟨by rfl, ?_⟩) (by assumption) ?_
        rotate_left 1
        · (intro w0 hSw; (try dsimp only at hSw); go_split_ands; go_simp; (try with_reducible rfl))
        try simp only [Act.put, List.setIfInBounds_toArray, List.set_cons_zero, List.set_cons_succ, List.getElem_toArray, List.getElem_cons_zero, List.getElem_cons_succ]
        refine' wpAnyH_take (i := 3) (v := _) rfl (by kernel_rfl) (by kernel_rfl) (by kernel_rfl) (fun _ _ _ h => h) (Or.inl ⟨by rfl, ?_⟩) (by assumption) ?_
        rotate_left 1
        · (intro w0 hSw; (try dsimp only at hSw); go_split_ands; go_simp; (try with_reducible rfl))
        try simp only [Act.put, List.setIfInBounds_toArray, List.set_cons_zero, List.set_cons_succ, List.getElem_toArray, List.getElem_cons_zero, List.getElem_cons_succ]
        refine' wpAnyH_take (i := 4) (v := _) rfl (by kernel_rfl) (by kernel_rfl) (by kernel_rfl) (fun _ _ _ h => h) (Or.inl ⟨by rfl, ?_⟩) (by assumption) ?_
        rotate_left 1
        · (intro w0 hSw; (try dsimp only at hSw); go_split_ands; go_simp; (try with_reducible rfl))
        try simp only [Act.put, List.setIfInBounds_toArray, List.set_cons_zero, List.set_cons_succ, List.getElem_toArray, List.getElem_cons_zero, List.getElem_cons_succ]
        refine' wpAnyH_take (i := 5) (v := _) rfl (by kernel_rfl) (by kernel_rfl) (by kernel_rfl) (fun _ _ _ h => h) (Or.inl ⟨by rfl, ?_⟩) (by assumption) ?_
        rotate_left 1
        · (intro w0 hSw; (try dsimp only at hSw); go_split_ands; go_simp; (try with_reducible rfl))
        try simp only [Act.put, List.setIfInBounds_toArray, List.set_cons_zero, List.set_cons_succ, List.getElem_toArray, List.getElem_cons_zero, List.getElem_cons_succ]
        refine' wpAnyH_take (i := 6) (v := _) rfl (by kernel_rfl) (by kernel_rfl) (by kernel_rfl) (fun _ _ _ h => h) (Or.inl ⟨by rfl, ?_⟩) (by assumption) ?_
        rotate_left 1
        · (intro w0 hSw; (try dsimp only at hSw); go_split_ands; go_simp; (try with_reducible rfl))
        try simp only [Act.put, List.setIfInBounds_toArray, List.set_cons_zero, List.set_cons_succ, List.getElem_toArray, List.getElem_cons_zero, List.getElem_cons_succ]
        refine' wpAnyH_take (i := 7) (v := _) rfl (by kernel_rfl) (by kernel_rfl) (by kernel_rfl) (fun _ _ _ h => h) (Or.inl ⟨by rfl, ?_⟩) (by assumption) ?_
        rotate_left 1
        · (intro w0 hSw; (try dsimp only at hSw); go_split_ands; go_simp; (try with_reducible rfl))
        try simp only [Act.put, List.setIfInBounds_toArray, List.set_cons_zero, List.set_cons_succ, List.getElem_toArray, List.getElem_cons_zero, List.getElem_cons_succ]
        refine' wpAnyH_take (i := 8) (v := _) rfl (by kernel_rfl) (by kernel_rfl) (by kernel_rfl) (fun _ _ _ h => h) (Or.inl ⟨by rfl, ?_⟩) (by assumption) ?_
        rotate_left 1
        · (intro w0 hSw; (try dsimp only at hSw); go_split_ands; go_simp; (try with_reducible rfl))
        try simp only [Act.put, List.setIfInBounds_toArray, List.set_cons_zero, List.set_cons_succ, List.getElem_toArray, List.getElem_cons_zero, List.getElem_cons_succ]
        refine' wpAnyH_take (i := 9) (v := _) rfl (by kernel_rfl) (by kernel_rfl) (by kernel_rfl) (fun _ _ _ h => h) (Or.inl ⟨by rfl, ?_⟩) (by assumption) ?_
        rotate_left 1
        · (intro w0 hSw; (try dsimp only at hSw); go_split_ands; go_simp; (try with_reducible rfl))
        try simp only [Act.put, List.setIfInBounds_toArray, List.set_cons_zero, List.set_cons_succ, List.getElem_toArray, List.getElem_cons_zero, List.getElem_cons_succ]
        refine' wpAnyH_take (i := 10) (v := _) rfl (by kernel_rfl) (by kernel_rfl) (by kernel_rfl) (fun _ _ _ h => h) (Or.inl ⟨by rfl, ?_⟩) (by assumption) ?_
        rotate_left 1
        · (intro w0 hSw; (try dsimp only at hSw); go_split_ands; go_simp; (try with_reducible rfl))
        try simp only [Act.put, List.setIfInBounds_toArray, List.set_cons_zero, List.set_cons_succ, List.getElem_toArray, List.getElem_cons_zero, List.getElem_cons_succ]
        refine' wpAnyH_take (i := 11) (v := _) rfl (by kernel_rfl) (by kernel_rfl) (by kernel_rfl) (fun _ _ _ h => h) (Or.inl ⟨by rfl, ?_⟩) (by assumption) ?_
        rotate_left 1
        · (intro w0 hSw; (try dsimp only at hSw); go_split_ands; go_simp; (try with_reducible rfl))
        try simp only [Act.put, List.setIfInBounds_toArray, List.set_cons_zero, List.set_cons_succ, List.getElem_toArray, List.getElem_cons_zero, List.getElem_cons_succ]
        refine' wpAnyH_take (i := 12) (v := _) rfl (by kernel_rfl) (by kernel_rfl) (by kernel_rfl) (fun _ _ _ h => h) (Or.inl ⟨by rfl, ?_⟩) (by assumption) ?_
        rotate_left 1
        · (intro w0 hSw; (try dsimp only at hSw); go_split_ands; go_simp; (try with_reducible rfl))
        try simp only [Act.put, List.setIfInBounds_toArray, List.set_cons_zero, List.set_cons_succ, List.getElem_toArray, List.getElem_cons_zero, List.getElem_cons_succ]
        refine' wpAnyH_take (i := 13) (v := _) rfl (by kernel_rfl) (by kernel_rfl) (by kernel_rfl) (fun _ _ _ h => h) (Or.inl ⟨by rfl, ?_⟩) (by assumption) ?_
        rotate_left 1
        · (intro w0 hSw; (try dsimp only at hSw); go_split_ands; go_simp; (try with_reducible rfl))
        try simp only [Act.put, List.setIfInBounds_toArray, List.set_cons_zero, List.set_cons_succ, List.getElem_toArray, List.getElem_cons_zero, List.getElem_cons_succ]
        refine' wpAnyH_take (i := 14) (v := _) rfl (by kernel_rfl) (by kernel_rfl) (by kernel_rfl) (fun _ _ _ h => h) (Or.inl ⟨by rfl, ?_⟩) (by assumption) ?_
        rotate_left 1
        · (intro w0 hSw; (try dsimp only at hSw); go_split_ands; go_simp; (try with_reducible rfl))
        try simp only [Act.put, List.setIfInBounds_toArray, List.set_cons_zero, List.set_cons_succ, List.getElem_toArray, List.getElem_cons_zero, List.getElem_cons_succ]
        refine' wpAnyH_take (i := 15) (v := _) rfl (by kernel_rfl) (by kernel_rfl) (by kernel_rfl) (fun _ _ _ h => h) (Or.inl ⟨by rfl, ?_⟩) (by assumption) ?_
        rotate_left 1
        · (intro w0 hSw; (try dsimp only at hSw); go_split_ands; go_simp; (try with_reducible rfl))
        try simp only [Act.put, List.setIfInBounds_toArray, List.set_cons_zero, List.set_cons_succ, List.getElem_toArray, List.getElem_cons_zero, List.getElem_cons_succ]
        refine' wpAnyH_take (i := 16) (v := _) rfl (by kernel_rfl) (by kernel_rfl) (by kernel_rfl) (fun _ _ _ h => h) (Or.inl ⟨by rfl, ?_⟩) (by assumption) ?_
        rotate_left 1
        · (intro w0 hSw; (try dsimp only at hSw); go_split_ands; go_simp; (try with_reducible rfl))
        try simp only [Act.put, List.setIfInBounds_toArray, List.set_cons_zero, List.set_cons_succ, List.getElem_toArray, List.getElem_cons_zero, List.getElem_cons_succ]
        refine' wpAnyH_take (i := 17) (v := _) rfl (by kernel_rfl) (by kernel_rfl) (by kernel_rfl) (fun _ _ _ h => h) (Or.inl ⟨by rfl, ?_⟩) (by assumption) ?_
        rotate_left 1
        · (intro w0 hSw; (try dsimp only at hSw); go_split_ands; go_simp; (try with_reducible rfl))
        try simp only [Act.put, List.setIfInBounds_toArray, List.set_cons_zero, List.set_cons_succ, List.getElem_toArray, List.getElem_cons_zero, List.getElem_cons_succ]
        refine' wpAnyH_take (i := 18) (v := _) rfl (by kernel_rfl) (by kernel_rfl) (by kernel_rfl) (fun _ _ _ h => h) (Or.inl ⟨by rfl, ?_⟩) (by assumption) ?_
        rotate_left 1
        · (intro w0 hSw; (try dsimp only at hSw); go_split_ands; go_simp; (try with_reducible rfl))
        try simp only [Act.put, List.setIfInBounds_toArray, List.set_cons_zero, List.set_cons_succ, List.getElem_toArray, List.getElem_cons_zero, List.getElem_cons_succ]
        refine' wpAnyH_take (i := 19) (v := _) rfl (by kernel_rfl) (by kernel_rfl) (by kernel_rfl) (fun _ _ _ h => h) (Or.inl ⟨by rfl, ?_⟩) (by assumption) ?_
        rotate_left 1
        · (intro w0 hSw; (try dsimp only at hSw); go_split_ands; go_simp; (try with_reducible rfl))
        try simp only [Act.put, List.setIfInBounds_toArray, List.set_cons_zero, List.set_cons_succ, List.getElem_toArray, List.getElem_cons_zero, List.getElem_cons_succ]
        refine' wpAnyH_take (i := 20) (v := _) rfl (by kernel_rfl) (by kernel_rfl) (by kernel_rfl) (fun _ _ _ h => h) (yieldsIf_load_mid (by rfl) 27 (.tmp 28) rfl w.heap.size 2 rfl (p.bits.map B) _ (fun _ h => h.1.2) Try.underlying27 rfl HS32.out) (by assumption) ?_
        try simp only [Act.put, List.setIfInBounds_toArray, List.set_cons_zero, List.set_cons_succ, List.getElem_toArray, List.getElem_cons_zero, List.getElem_cons_succ]
        refine wpAnyH_ready (rs := [21]) (by kernel_rfl) (by simp) ?_
        refine AllReadyH.cons rfl (fun K hK => ?_) AllReadyH.nil
        go_simp
        refine (HCO.out _).mono ?_
        rintro e w1 ⟨rfl, hk1⟩
        have hk1a : Keeps [] wa w1 := ((Keeps.refl _ _).drew).trans (G := []) hk1 (by simp)
        refine hK.out _ _ ?_ (fun hHeld => ?_)
        · exact ⟨HT2.out _ hk1a, hk1a⟩
        clear hK K
        try simp only [Act.put, List.setIfInBounds_toArray, List.set_cons_zero, List.set_cons_succ, List.getElem_toArray, List.getElem_cons_zero, List.getElem_cons_succ]
        refine' wpAnyH_take (i := 22) (v := _) rfl (by kernel_rfl) (by kernel_rfl) (by kernel_rfl) (fun _ _ _ h => h) (Or.inl ⟨by rfl, ?_⟩) (by assumption) ?_
        rotate_left 1
        · (intro w0 hSw; (try dsimp only at hSw); go_split_ands; go_simp; (try with_reducible rfl))
        try simp only [Act.put, List.setIfInBounds_toArray, List.set_cons_zero, List.set_cons_succ, List.getElem_toArray, List.getElem_cons_zero, List.getElem_cons_succ]
        refine' wpAnyH_take (i := 23) (v := _) rfl (by kernel_rfl) (by kernel_rfl) (by kernel_rfl) (fun _ _ _ h => h) (Or.inl ⟨by rfl, ?_⟩) (by assumption) ?_
        rotate_left 1
        · (intro w0 hSw; (try dsimp only at hSw); go_split_ands; go_simp; (try with_reducible rfl))
        try simp only [Act.put, List.setIfInBounds_toArray, List.set_cons_zero, List.set_cons_succ, List.getElem_toArray, List.getElem_cons_zero, List.getElem_cons_succ]
        refine wpAnyH_done (by kernel_rfl) ?_ _
        go_wp2_with fail
        go_ret2
        exact ⟨rfl, hka.trans (G := []) hk1a (by simp)⟩
      · skip
        refine wp_region_held_drew (S := (fun w' => ((w'.cell? ⟨w.heap.size, 0, none⟩ = some (.bool true) ∧ w'.cell? ⟨w.heap.size, 1, none⟩ = some (Value.slice a1 p.val.length c1) ∧ w'.cell? ⟨w.heap.size, 34, none⟩ = some (Value.slice a2 p.sums.length c2)) ∧ w'.rangeAt w.heap.size 2 (p.bits.map B)) ∧ Keeps [] wa w')) (by kernel_rfl) ?_ (fun hHeld => ?_)
        · exact ⟨HT.out _ (Keeps.refl _ _).drew, (Keeps.refl _ _).drew⟩
        refine' wpAnyH_take (i := 0) (v := _) rfl (by kernel_rfl) (by kernel_rfl) (by kernel_rfl) (fun _ _ _ h => h) (Or.inl ⟨by rfl, ?_⟩) (by assumption) ?_
        rotate_left 1
        · (intro w0 hSw; (try dsimp only at hSw); go_split_ands; go_simp; (try with_reducible rfl))
        try simp only [Act.put, List.setIfInBounds_toArray, List.set_cons_zero, List.set_cons_succ, List.getElem_toArray, List.getElem_cons_zero, List.getElem_cons_succ]
        refine' wpAnyH_take (i := 1) (v := _) rfl (by kernel_rfl) (by kernel_rfl) (by kernel_rfl) (fun _ _ _ h => h) (Or.inl ⟨by rfl, ?_⟩) (by assumption) ?_
        rotate_left 1
        · (intro w0 hSw; (try dsimp only at hSw); go_split_ands; go_simp; (try with_reducible rfl))
        try simp only [Act.put, List.setIfInBounds_toArray, List.set_cons_zero, List.set_cons_succ, List.getElem_toArray, List.getElem_cons_zero, List.getElem_cons_succ]
        refine' wpAnyH_take (i := 2) (v := _) rfl (by kernel_rfl) (by kernel_rfl) (by kernel_rfl) (fun _ _ _ h => h) (Or.inl ⟨by rfl, ?_⟩) (by assumption) ?_
        rotate_left 1
        · (intro w0 hSw; (try dsimp only at hSw); go_split_ands; go_simp; (try with_reducible rfl))
        try simp only [Act.put, List.setIfInBounds_toArray, List.set_cons_zero, List.set_cons_succ, List.getElem_toArray, List.getElem_cons_zero, List.getElem_cons_succ]
        refine' wpAnyH_take (i := 3) (v := _) rfl (by kernel_rfl) (by kernel_rfl) (by kernel_rfl) (fun _ _ _ h => h) (Or.inl ⟨by rfl, ?_⟩) (by assumption) ?_
        rotate_left 1
        · (intro w0 hSw; (try dsimp only at hSw); go_split_ands; go_simp; (try with_reducible rfl))
        try simp only [Act.put, List.setIfInBounds_toArray, List.set_cons_zero, List.set_cons_succ, List.getElem_toArray, List.getElem_cons_zero, List.getElem_cons_succ]
        refine' wpAnyH_take (i := 4) (v := undef) rfl (by kernel_rfl) (by kernel_rfl) (by kernel_rfl) (fun _ _ _ h => h) (Or.inr ⟨by rfl, rfl⟩) (by assumption) ?_
        try simp only [Act.put, List.setIfInBounds_toArray, List.set_cons_zero, List.set_cons_succ, List.getElem_toArray, List.getElem_cons_zero, List.getElem_cons_succ]
        refine' wpAnyH_take (i := 5) (v := undef) rfl (by kernel_rfl) (by kernel_rfl) (by kernel_rfl) (fun _ _ _ h => h) (Or.inr ⟨by rfl, rfl⟩) (by assumption) ?_
        try simp only [Act.put, List.setIfInBounds_toArray, List.set_cons_zero, List.set_cons_succ, List.getElem_toArray, List.getElem_cons_zero, List.getElem_cons_succ]
        refine' wpAnyH_take (i := 6) (v := undef) rfl (by kernel_rfl) (by kernel_rfl) (by kernel_rfl) (fun _ _ _ h => h) (Or.inr ⟨by rfl, rfl⟩) (by assumption) ?_
        try simp only [Act.put, List.setIfInBounds_toArray, List.set_cons_zero, List.set_cons_succ, List.getElem_toArray, List.getElem_cons_zero, List.getElem_cons_succ]
        refine' wpAnyH_take (i := 7) (v := undef) rfl (by kernel_rfl) (by kernel_rfl) (by kernel_rfl) (fun _ _ _ h => h) (Or.inr ⟨by rfl, rfl⟩) (by assumption) ?_
        try simp only [Act.put, List.setIfInBounds_toArray, List.set_cons_zero, List.set_cons_succ, List.getElem_toArray, List.getElem_cons_zero, List.getElem_cons_succ]
        refine' wpAnyH_take (i := 8) (v := _) rfl (by kernel_rfl) (by kernel_rfl) (by kernel_rfl) (fun _ _ _ h => h) (Or.inl ⟨by rfl, ?_⟩) (by assumption) ?_
        rotate_left 1
        · (intro w0 hSw; (try dsimp only at hSw); go_split_ands; go_simp; (try with_reducible rfl))
        try simp only [Act.put, List.setIfInBounds_toArray, List.set_cons_zero, List.set_cons_succ, List.getElem_toArray, List.getElem_cons_zero, List.getElem_cons_succ]
        refine' wpAnyH_take (i := 9) (v := _) rfl (by kernel_rfl) (by kernel_rfl) (by kernel_rfl) (fun _ _ _ h => h) (Or.inl ⟨by rfl, ?_⟩) (by assumption) ?_
        rotate_left 1
        · (intro w0 hSw; (try dsimp only at hSw); go_split_ands; go_simp; (try with_reducible rfl))
        try simp only [Act.put, List.setIfInBounds_toArray, List.set_cons_zero, List.set_cons_succ, List.getElem_toArray, List.getElem_cons_zero, List.getElem_cons_succ]
        refine' wpAnyH_take (i := 10) (v := _) rfl (by kernel_rfl) (by kernel_rfl) (by kernel_rfl) (fun _ _ _ h => h) (Or.inl ⟨by rfl, ?_⟩) (by assumption) ?_
        rotate_left 1
        · (intro w0 hSw; (try dsimp only at hSw); go_split_ands; go_simp; (try with_reducible rfl))
        try simp only [Act.put, List.setIfInBounds_toArray, List.set_cons_zero, List.set_cons_succ, List.getElem_toArray, List.getElem_cons_zero, List.getElem_cons_succ]
        refine' wpAnyH_take (i := 11) (v := _) rfl (by kernel_rfl) (by kernel_rfl) (by kernel_rfl) (fun _ _ _ h => h) (Or.inl ⟨by rfl, ?_⟩) (by assumption) ?_
        rotate_left 1
        · (intro w0 hSw; (try dsimp only at hSw); go_split_ands; go_simp; (try with_reducible rfl))
        try simp only [Act.put, List.setIfInBounds_toArray, List.set_cons_zero, List.set_cons_succ, List.getElem_toArray, List.getElem_cons_zero, List.getElem_cons_succ]
        refine' wpAnyH_take (i := 12) (v := _) rfl (by kernel_rfl) (by kernel_rfl) (by kernel_rfl) (fun _ _ _ h => h) (Or.inl ⟨by rfl, ?_⟩) (by assumption) ?_
        rotate_left 1
        · (intro w0 hSw; (try dsimp only at hSw); go_split_ands; go_simp; (try with_reducible rfl))
        try simp only [Act.put, List.setIfInBounds_toArray, List.set_cons_zero, List.set_cons_succ, List.getElem_toArray, List.getElem_cons_zero, List.getElem_cons_succ]
        refine' wpAnyH_take (i := 13) (v := _) rfl (by kernel_rfl) (by kernel_rfl) (by kernel_rfl) (fun _ _ _ h => h) (Or.inl ⟨by rfl, ?_⟩) (by assumption) ?_
        rotate_left 1
        · (intro w0 hSw; (try dsimp only at hSw); go_split_ands; go_simp; (try with_reducible rfl))
        try simp only [Act.put, List.setIfInBounds_toArray, List.set_cons_zero, List.set_cons_succ, List.getElem_toArray, List.getElem_cons_zero, List.getElem_cons_succ]
        refine' wpAnyH_take (i := 14) (v := _) rfl (by kernel_rfl) (by kernel_rfl) (by kernel_rfl) (fun _ _ _ h => h) (Or.inl ⟨by rfl, ?_⟩) (by assumption) ?_
        rotate_left 1
        · (intro w0 hSw; (try dsimp only at hSw); go_split_ands; go_simp; (try with_reducible rfl))
        try simp only [Act.put, List.setIfInBounds_toArray, List.set_cons_zero, List.set_cons_succ, List.getElem_toArray, List.getElem_cons_zero, List.getElem_cons_succ]
        refine' wpAnyH_take (i := 15) (v := _) rfl (by kernel_rfl) (by kernel_rfl) (by kernel_rfl) (fun _ _ _ h => h) (Or.inl ⟨by rfl, ?_⟩) (by assumption) ?_
        rotate_left 1
        · (intro w0 hSw; (try dsimp only at hSw); go_split_ands; go_simp; (try with_reducible rfl))
        try simp only [Act.put, List.setIfInBounds_toArray, List.set_cons_zero, List.set_cons_succ, List.getElem_toArray, List.getElem_cons_zero, List.getElem_cons_succ]
        refine' wpAnyH_take (i := 16) (v := _) rfl (by kernel_rfl) (by kernel_rfl) (by kernel_rfl) (fun _ _ _ h => h) (Or.inl ⟨by rfl, ?_⟩) (by assumption) ?_
        rotate_left 1
        · (intro w0 hSw; (try dsimp only at hSw); go_split_ands; go_simp; (try with_reducible rfl))
        try simp only [Act.put, List.setIfInBounds_toArray, List.set_cons_zero, List.set_cons_succ, List.getElem_toArray, List.getElem_cons_zero, List.getElem_cons_succ]
        refine' wpAnyH_take (i := 17) (v := _) rfl (by kernel_rfl) (by kernel_rfl) (by kernel_rfl) (fun _ _ _ h => h) (Or.inl ⟨by rfl, ?_⟩) (by assumption) ?_
        rotate_left 1
        · (intro w0 hSw; (try dsimp only at hSw); go_split_ands; go_simp; (try with_reducible rfl))
        try simp only [Act.put, List.setIfInBounds_toArray, List.set_cons_zero, List.set_cons_succ, List.getElem_toArray, List.getElem_cons_zero, List.getElem_cons_succ]
        refine' wpAnyH_take (i := 18) (v := _) rfl (by kernel_rfl) (by kernel_rfl) (by kernel_rfl) (fun _ _ _ h => h) (Or.inl ⟨by rfl, ?_⟩) (by assumption) ?_
        rotate_left 1
        · (intro w0 hSw; (try dsimp only at hSw); go_split_ands; go_simp; (try with_reducible rfl))
        try simp only [Act.put, List.setIfInBounds_toArray, List.set_cons_zero, List.set_cons_succ, List.getElem_toArray, List.getElem_cons_zero, List.getElem_cons_succ]
        refine' wpAnyH_take (i := 19) (v := _) rfl (by kernel_rfl) (by kernel_rfl) (by kernel_rfl) (fun _ _ _ h => h) (Or.inl ⟨by rfl, ?_⟩) (by assumption) ?_
        rotate_left 1
        · (intro w0 hSw; (try dsimp only at hSw); go_split_ands; go_simp; (try with_reducible rfl))
        try simp only [Act.put, List.setIfInBounds_toArray, List.set_cons_zero, List.set_cons_succ, List.getElem_toArray, List.getElem_cons_zero, List.getElem_cons_succ]
        refine' wpAnyH_take (i := 20) (v := _) rfl (by kernel_rfl) (by kernel_rfl) (by kernel_rfl) (fun _ _ _ h => h) (yieldsIf_load_mid (by rfl) 27 (.tmp 28) rfl w.heap.size 2 rfl (p.bits.map B) _ (fun _ h => h.1.2) Try.underlying27 rfl HS32.out) (by assumption) ?_
        try simp only [Act.put, List.setIfInBounds_toArray, List.set_cons_zero, List.set_cons_succ, List.getElem_toArray, List.getElem_cons_zero, List.getElem_cons_succ]
        refine wpAnyH_ready (rs := [21]) (by kernel_rfl) (by simp) ?_
        refine AllReadyH.cons rfl (fun K hK => ?_) AllReadyH.nil
        go_simp
        refine (HCO.out _).mono ?_
        rintro e w1 ⟨rfl, hk1⟩
        have hk1a : Keeps [] wa w1 := ((Keeps.refl _ _).drew).trans (G := []) hk1 (by simp)
        refine hK.out _ _ ?_ (fun hHeld => ?_)
        · exact ⟨HT.out _ hk1a, hk1a⟩
        clear hK K
        try simp only [Act.put, List.setIfInBounds_toArray, List.set_cons_zero, List.set_cons_succ, List.getElem_toArray, List.getElem_cons_zero, List.getElem_cons_succ]
        refine' wpAnyH_take (i := 22) (v := _) rfl (by kernel_rfl) (by kernel_rfl) (by kernel_rfl) (fun _ _ _ h => h) (Or.inl ⟨by rfl, ?_⟩) (by assumption) ?_
        rotate_left 1
        · (intro w0 hSw; (try dsimp only at hSw); go_split_ands; go_simp; (try with_reducible rfl))
        try simp only [Act.put, List.setIfInBounds_toArray, List.set_cons_zero, List.set_cons_succ, List.getElem_toArray, List.getElem_cons_zero, List.getElem_cons_succ]
        refine' wpAnyH_take (i := 23) (v := _) rfl (by kernel_rfl) (by kernel_rfl) (by kernel_rfl) (fun _ _ _ h => h) (Or.inl ⟨by rfl, ?_⟩) (by assumption) ?_
        rotate_left 1
        · (intro w0 hSw; (try dsimp only at hSw); go_split_ands; go_simp; (try with_reducible rfl))
        try simp only [Act.put, List.setIfInBounds_toArray, List.set_cons_zero, List.set_cons_succ, List.getElem_toArray, List.getElem_cons_zero, List.getElem_cons_succ]
        refine wpAnyH_done (by kernel_rfl) ?_ _
        go_wp2_with fail
        go_ret2
        exact ⟨rfl, hka.trans (G := []) hk1a (by simp)⟩
    · have g1 : decide ((128 : Int) < (p.val.length : Int)) = true := by simp; omega
      have hfd : fd = true := by
        cases fd
        · exact absurd ⟨rfl, by omega⟩ h2
        · rfl
      subst hfd
      refine wp_region_held_drew (S := (fun w' => ((w'.cell? ⟨w.heap.size, 0, none⟩ = some (.bool true) ∧ w'.cell? ⟨w.heap.size, 1, none⟩ = some (Value.slice a1 p.val.length c1) ∧ w'.cell? ⟨w.heap.size, 34, none⟩ = some (Value.slice a2 p.sums.length c2)) ∧ w'.rangeAt w.heap.size 2 (p.bits.map B)) ∧ Keeps [] wa w')) (by kernel_rfl) ?_ (fun hHeld => ?_)
      · exact ⟨HT.out _ (Keeps.refl _ _).drew, (Keeps.refl _ _).drew⟩
      refine' wpAnyH_take (i := 0) (v := _) rfl (by kernel_rfl) (by kernel_rfl) (by kernel_rfl) (fun _ _ _ h => h) (Or.inl ⟨by rfl, ?_⟩) (by assumption) ?_
      rotate_left 1
      · (intro w0 hSw; (try dsimp only at hSw); go_split_ands; go_simp; (try with_reducible rfl))
      try simp only [Act.put, List.setIfInBounds_toArray, List.set_cons_zero, List.set_cons_succ, List.getElem_toArray, List.getElem_cons_zero, List.getElem_cons_succ]
      refine' wpAnyH_take (i := 1) (v := _) rfl (by kernel_rfl) (by kernel_rfl) (by kernel_rfl) (fun _ _ _ h => h) (Or.inl ⟨by rfl, ?_⟩) (by assumption) ?_
      rotate_left 1
      · (intro w0 hSw; (try dsimp only at hSw); go_split_ands; go_simp; (try with_reducible rfl))
      try simp only [Act.put, List.setIfInBounds_toArray, List.set_cons_zero, List.set_cons_succ, List.getElem_toArray, List.getElem_cons_zero, List.getElem_cons_succ]
      refine' wpAnyH_take (i := 2) (v := _) rfl (by kernel_rfl) (by kernel_rfl) (by kernel_rfl) (fun _ _ _ h => h) (Or.inl ⟨by rfl, ?_⟩) (by assumption) ?_
      rotate_left 1
      · (intro w0 hSw; (try dsimp only at hSw); go_split_ands; go_simp; (try with_reducible rfl))
      try simp only [Act.put, List.setIfInBounds_toArray, List.set_cons_zero, List.set_cons_succ, List.getElem_toArray, List.getElem_cons_zero, List.getElem_cons_succ]
      refine' wpAnyH_take (i := 3) (v := _) rfl (by kernel_rfl) (by kernel_rfl) (by kernel_rfl) (fun _ _ _ h => h) (Or.inl ⟨by rfl, ?_⟩) (by assumption) ?_
      rotate_left 1
      · (intro w0 hSw; (try dsimp only at hSw); go_split_ands; go_simp; (try with_reducible rfl))
      try simp only [Act.put, List.setIfInBounds_toArray, List.set_cons_zero, List.set_cons_succ, List.getElem_toArray, List.getElem_cons_zero, List.getElem_cons_succ]
      refine' wpAnyH_take (i := 4) (v := undef) rfl (by kernel_rfl) (by kernel_rfl) (by kernel_rfl) (fun _ _ _ h => h) (Or.inr ⟨by rfl, rfl⟩) (by assumption) ?_
      try simp only [Act.put, List.setIfInBounds_toArray, List.set_cons_zero, List.set_cons_succ, List.getElem_toArray, List.getElem_cons_zero, List.getElem_cons_succ]
      refine' wpAnyH_take (i := 5) (v := undef) rfl (by kernel_rfl) (by kernel_rfl) (by kernel_rfl) (fun _ _ _ h => h) (Or.inr ⟨by rfl, rfl⟩) (by assumption) ?_
      try simp only [Act.put, List.setIfInBounds_toArray, List.set_cons_zero, List.set_cons_succ, List.getElem_toArray, List.getElem_cons_zero, List.getElem_cons_succ]
      refine' wpAnyH_take (i := 6) (v := undef) rfl (by kernel_rfl) (by kernel_rfl) (by kernel_rfl) (fun _ _ _ h => h) (Or.inr ⟨by rfl, rfl⟩) (by assumption) ?_
      try simp only [Act.put, List.setIfInBounds_toArray, List.set_cons_zero, List.set_cons_succ, List.getElem_toArray, List.getElem_cons_zero, List.getElem_cons_succ]
      refine' wpAnyH_take (i := 7) (v := undef) rfl (by kernel_rfl) (by kernel_rfl) (by kernel_rfl) (fun _ _ _ h => h) (Or.inr ⟨by rfl, rfl⟩) (by assumption) ?_
      try simp only [Act.put, List.setIfInBounds_toArray, List.set_cons_zero, List.set_cons_succ, List.getElem_toArray, List.getElem_cons_zero, List.getElem_cons_succ]
      refine' wpAnyH_take (i := 8) (v := _) rfl (by kernel_rfl) (by kernel_rfl) (by kernel_rfl) (fun _ _ _ h => h) (Or.inl ⟨by rfl, ?_⟩) (by assumption) ?_
      rotate_left 1
      · (intro w0 hSw; (try dsimp only at hSw); go_split_ands; go_simp; (try with_reducible rfl))
      try simp only [Act.put, List.setIfInBounds_toArray, List.set_cons_zero, List.set_cons_succ, List.getElem_toArray, List.getElem_cons_zero, List.getElem_cons_succ]
      refine' wpAnyH_take (i := 9) (v := _) rfl (by kernel_rfl) (by kernel_rfl) (by kernel_rfl) (fun _ _ _ h => h) (Or.inl ⟨by rfl, ?_⟩) (by assumption) ?_
      rotate_left 1
      · (intro w0 hSw; (try dsimp only at hSw); go_split_ands; go_simp; (try with_reducible rfl))
      try simp only [Act.put, List.setIfInBounds_toArray, List.set_cons_zero, List.set_cons_succ, List.getElem_toArray, List.getElem_cons_zero, List.getElem_cons_succ]
      refine' wpAnyH_take (i := 10) (v := _) rfl (by kernel_rfl) (by kernel_rfl) (by kernel_rfl) (fun _ _ _ h => h) (Or.inl ⟨by rfl, ?_⟩) (by assumption) ?_
      rotate_left 1
      · (intro w0 hSw; (try dsimp only at hSw); go_split_ands; go_simp; (try with_reducible rfl))
      try simp only [Act.put, List.setIfInBounds_toArray, List.set_cons_zero, List.set_cons_succ, List.getElem_toArray, List.getElem_cons_zero, List.getElem_cons_succ]
      refine' wpAnyH_take (i := 11) (v := _) rfl (by kernel_rfl) (by kernel_rfl) (by kernel_rfl) (fun _ _ _ h => h) (Or.inl ⟨by rfl, ?_⟩) (by assumption) ?_
      rotate_left 1
      · (intro w0 hSw; (try dsimp only at hSw); go_split_ands; go_simp; (try with_reducible rfl))
      try simp only [Act.put, List.setIfInBounds_toArray, List.set_cons_zero, List.set_cons_succ, List.getElem_toArray, List.getElem_cons_zero, List.getElem_cons_succ]
      refine' wpAnyH_take (i := 12) (v := _) rfl (by kernel_rfl) (by kernel_rfl) (by kernel_rfl) (fun _ _ _ h => h) (Or.inl ⟨by rfl, ?_⟩) (by assumption) ?_
      rotate_left 1
      · (intro w0 hSw; (try dsimp only at hSw); go_split_ands; go_simp; (try with_reducible rfl))
      try simp only [Act.put, List.setIfInBounds_toArray, List.set_cons_zero, List.set_cons_succ, List.getElem_toArray, List.getElem_cons_zero, List.getElem_cons_succ]
      refine' wpAnyH_take (i := 13) (v := _) rfl (by kernel_rfl) (by kernel_rfl) (by kernel_rfl) (fun _ _ _ h => h) (Or.inl ⟨by rfl, ?_⟩) (by assumption) ?_
      rotate_left 1
      · (intro w0 hSw; (try dsimp only at hSw); go_split_ands; go_simp; (try with_reducible rfl))
      try simp only [Act.put, List.setIfInBounds_toArray, List.set_cons_zero, List.set_cons_succ, List.getElem_toArray, List.getElem_cons_zero, List.getElem_cons_succ]
      refine' wpAnyH_take (i := 14) (v := _) rfl (by kernel_rfl) (by kernel_rfl) (by kernel_rfl) (fun _ _ _ h => h) (Or.inl ⟨by rfl, ?_⟩) (by assumption) ?_
      rotate_left 1
      · (intro w0 hSw; (try dsimp only at hSw); go_split_ands; go_simp; (try with_reducible rfl))
      try simp only [Act.put, List.setIfInBounds_toArray, List.set_cons_zero, List.set_cons_succ, List.getElem_toArray, List.getElem_cons_zero, List.getElem_cons_succ]
      refine' wpAnyH_take (i := 15) (v := _) rfl (by kernel_rfl) (by kernel_rfl) (by kernel_rfl) (fun _ _ _ h => h) (Or.inl ⟨by rfl, ?_⟩) (by assumption) ?_
      rotate_left 1
      · (intro w0 hSw; (try dsimp only at hSw); go_split_ands; go_simp; (try with_reducible rfl))
      try simp only [Act.put, List.setIfInBounds_toArray, List.set_cons_zero, List.set_cons_succ, List.getElem_toArray, List.getElem_cons_zero, List.getElem_cons_succ]
      refine' wpAnyH_take (i := 16) (v := undef) rfl (by kernel_rfl) (by kernel_rfl) (by kernel_rfl) (fun _ _ _ h => h) (Or.inr ⟨by rfl, rfl⟩) (by assumption) ?_
      try simp only [Act.put, List.setIfInBounds_toArray, List.set_cons_zero, List.set_cons_succ, List.getElem_toArray, List.getElem_cons_zero, List.getElem_cons_succ]
      refine' wpAnyH_take (i := 17) (v := undef) rfl (by kernel_rfl) (by kernel_rfl) (by kernel_rfl) (fun _ _ _ h => h) (Or.inr ⟨by rfl, rfl⟩) (by assumption) ?_
      try simp only [Act.put, List.setIfInBounds_toArray, List.set_cons_zero, List.set_cons_succ, List.getElem_toArray, List.getElem_cons_zero, List.getElem_cons_succ]
      refine' wpAnyH_take (i := 18) (v := undef) rfl (by kernel_rfl) (by kernel_rfl) (by kernel_rfl) (fun _ _ _ h => h) (Or.inr ⟨by rfl, rfl⟩) (by assumption) ?_
      try simp only [Act.put, List.setIfInBounds_toArray, List.set_cons_zero, List.set_cons_succ, List.getElem_toArray, List.getElem_cons_zero, List.getElem_cons_succ]
      refine' wpAnyH_take (i := 19) (v := undef) rfl (by kernel_rfl) (by kernel_rfl) (by kernel_rfl) (fun _ _ _ h => h) (Or.inr ⟨by rfl, rfl⟩) (by assumption) ?_
      try simp only [Act.put, List.setIfInBounds_toArray, List.set_cons_zero, List.set_cons_succ, List.getElem_toArray, List.getElem_cons_zero, List.getElem_cons_succ]
      refine' wpAnyH_take (i := 20) (v := undef) rfl (by kernel_rfl) (by kernel_rfl) (by kernel_rfl) (fun _ _ _ h => h) (Or.inr ⟨by rfl, rfl⟩) (by assumption) ?_
      try simp only [Act.put, List.setIfInBounds_toArray, List.set_cons_zero, List.set_cons_succ, List.getElem_toArray, List.getElem_cons_zero, List.getElem_cons_succ]
      refine' wpAnyH_take (i := 21) (v := undef) rfl (by kernel_rfl) (by kernel_rfl) (by kernel_rfl) (fun _ _ _ h => h) (Or.inr ⟨by rfl, rfl⟩) (by assumption) ?_
      try simp only [Act.put, List.setIfInBounds_toArray, List.set_cons_zero, List.set_cons_succ, List.getElem_toArray, List.getElem_cons_zero, List.getElem_cons_succ]
      refine' wpAnyH_take (i := 22) (v := undef) rfl (by kernel_rfl) (by kernel_rfl) (by kernel_rfl) (fun _ _ _ h => h) (Or.inr ⟨by rfl, rfl⟩) (by assumption) ?_
      try simp only [Act.put, List.setIfInBounds_toArray, List.set_cons_zero, List.set_cons_succ, List.getElem_toArray, List.getElem_cons_zero, List.getElem_cons_succ]
      refine' wpAnyH_take (i := 23) (v := _) rfl (by kernel_rfl) (by kernel_rfl) (by kernel_rfl) (fun _ _ _ h => h) (Or.inl ⟨by rfl, ?_⟩) (by assumption) ?_
      rotate_left 1
      · (intro w0 hSw; (try dsimp only at hSw); go_split_ands; go_simp; (try with_reducible rfl))
      try simp only [Act.put, List.setIfInBounds_toArray, List.set_cons_zero, List.set_cons_succ, List.getElem_toArray, List.getElem_cons_zero, List.getElem_cons_succ]
      refine wpAnyH_done (by kernel_rfl) ?_ _
      go_wp2_with fail
      go_ret2
      exact ⟨rfl, hka.drew⟩
set_option maxRecDepth 100000 in
set_option maxHeartbeats 3200000 in
theorem refEncode_found {w : World} {v : Value} {p : Pf} (hp : PfIn w v p) (hw : p.well = true) (hf : p.found = true) :
    Calls Try.prog 24 #[v] w fun e w' => ∃ rv, e = .returned (.tuple #[rv, .int .i64 0]) ∧ OwnB w' rv p.enc ∧ Keeps [] w w' := by
  obtain ⟨vv, sv, rfl, hv, hs, hb, hd⟩ := hp
  obtain ⟨a1, c1, rfl, hc1, hm1⟩ := hv.form
  obtain ⟨a2, c2, rfl, hc2, hm2⟩ := hs.form
  unfold maxLen at hm1 hm2
  obtain ⟨C, hC⟩ : ∃ C, C = pfCells p (.slice a1 p.val.length c1) (.slice a2 p.sums.length c2) := ⟨_, rfl⟩
  rw [← hC]
  have hcl := fun (wx : World) (hx : wx.heap[w.heap.size]? = some (.cells C.toArray 30 (0, 0))) => And.intro (pf_cells (hC ▸ hx) hb) (pf_bits (hC ▸ hx) hb)
  obtain ⟨wa, hwa⟩ : ∃ wa, wa = w.alloc (.cells C.toArray 30 (0, 0)) := ⟨_, rfl⟩
  have hbx : wa.heap[w.heap.size]? = some (.cells C.toArray 30 (0, 0)) := by rw [hwa, heap_new_at rfl]
  have hka : Keeps [] w wa := by rw [hwa]; exact (Keeps.refl _ _).alloc _
  obtain ⟨fd, hfd⟩ : ∃ fd, fd = p.found := ⟨_, rfl⟩
  rw [← hfd] at hcl
  have y0 := lt_of_heap hbx
  have ht : ∀ wx, Keeps [] wa wx → (wx.cell? ⟨w.heap.size, 0, none⟩ = some (.bool fd) ∧ wx.cell? ⟨w.heap.size, 1, none⟩ = some (Value.slice a1 p.val.length c1) ∧ wx.cell? ⟨w.heap.size, 34, none⟩ = some (Value.slice a2 p.sums.length c2)) ∧ wx.rangeAt w.heap.size 2 (p.bits.map B) := fun wx hk => hcl wx ((hk.block _ y0 (by simp)).trans hbx)
  have HT := Lib.hid ht
  have HW := Lib.hid hwa
  have HFD := Lib.hid hfd
  have HS32 := Lib.hid (size_32_of hb)
  have HB := Lib.hid hb
  have HV := Lib.hid hv
  have HS := Lib.hid hs
  have HD := Lib.hid hd
  have hwell : p.well = ((fd || p.val.length == 0) && decide (p.val.length ≤ 128) && p.sums.length == onesOf p.bits) := by rw [hfd]; rfl
  rw [hw] at hwell
  have HX := Lib.hid hbx
  have hcO := fun (w : World) => refOnes_any (w := w) p.bits hb
  obtain ⟨m, hm⟩ : ∃ m, m = onesOf p.bits := ⟨_, rfl⟩
  rw [← hm] at hwell hcO
  have HCO := Lib.hid hcO
  have HM := Lib.hid hm
  have hbl := onesOf_le p.bits
  rw [hb, ← hm] at hbl
  clear hC hcl hv hs hb hd hfd hw hbx ht hwa hcO hm
  have hf2 : fd = true := HFD.out.trans hf
  subst hf2
  replace hwell := hwell.symm
  simp only [Bool.true_or, Bool.true_and, Bool.and_eq_true, decide_eq_true_eq, beq_iff_eq] at hwell
  obtain ⟨h1, h4⟩ := hwell
  obtain ⟨i0, hi0, hz0, hz1, hz2⟩ := info_parts info_u8
  have HI0 := Lib.hid hi0
  have HZ0 := Lib.hid hz0
  have HZ1 := Lib.hid hz1
  have HZ2 := Lib.hid hz2
  have g1 : decide ((128 : Int) < (p.val.length : Int)) = false := by simp; omega
  have g3 : ((p.sums.length : Int) != (m : Int)) = false := by rw [h4]; simp
  have H4 := Lib.hid h4
  have HF := Lib.hid hf
  have h4' : p.sums.length ≤ 256 := by omega
  clear h4 hf hi0 hz0 hz1 hz2
  go_enter Try.func24, Try.ntmps24
  go_wp2_with fail
  rw [← HW.out]
  refine wp_region_held_drew (S := (fun w' => ((w'.cell? ⟨w.heap.size, 0, none⟩ = some (.bool true) ∧ w'.cell? ⟨w.heap.size, 1, none⟩ = some (Value.slice a1 p.val.length c1) ∧ w'.cell? ⟨w.heap.size, 34, none⟩ = some (Value.slice a2 p.sums.length c2)) ∧ w'.rangeAt w.heap.size 2 (p.bits.map B)) ∧ Keeps [] wa w')) (by kernel_rfl) ?_ (fun hHeld => ?_)
  · exact ⟨HT.out _ (Keeps.refl _ _).drew, (Keeps.refl _ _).drew⟩
  refine' wpAnyH_take (i := 0) (v := _) rfl (by kernel_rfl) (by kernel_rfl) (by kernel_rfl) (fun _ _ _ h => h) (Or.inl ⟨by rfl, ?_⟩) (by assumption) ?_
  rotate_left 1
  · (intro w0 hSw; (try dsimp only at hSw); go_split_ands; go_simp; (try with_reducible rfl))
  try simp only [Act.put, List.setIfInBounds_toArray, List.set_cons_zero, List.set_cons_succ, List.getElem_toArray, List.getElem_cons_zero, List.getElem_cons_succ]
  refine' wpAnyH_take (i := 1) (v := _) rfl (by kernel_rfl) (by kernel_rfl) (by kernel_rfl) (fun _ _ _ h => h) (Or.inl ⟨by rfl, ?_⟩) (by assumption) ?_
  rotate_left 1
  · (intro w0 hSw; (try dsimp only at hSw); go_split_ands; go_simp; (try with_reducible rfl))
  try simp only [Act.put, List.setIfInBounds_toArray, List.set_cons_zero, List.set_cons_succ, List.getElem_toArray, List.getElem_cons_zero, List.getElem_cons_succ]
  refine' wpAnyH_take (i := 2) (v := _) rfl (by kernel_rfl) (by kernel_rfl) (by kernel_rfl) (fun _ _ _ h => h) (Or.inl ⟨by rfl, ?_⟩) (by assumption) ?_
  rotate_left 1
  · (intro w0 hSw; (try dsimp only at hSw); go_split_ands; go_simp; (try with_reducible rfl))
  try simp only [Act.put, List.setIfInBounds_toArray, List.set_cons_zero, List.set_cons_succ, List.getElem_toArray, List.getElem_cons_zero, List.getElem_cons_succ]
  refine' wpAnyH_take (i := 3) (v := _) rfl (by kernel_rfl) (by kernel_rfl) (by kernel_rfl) (fun _ _ _ h => h) (Or.inl ⟨by rfl, ?_⟩) (by assumption) ?_
  rotate_left 1
  · (intro w0 hSw; (try dsimp only at hSw); go_split_ands; go_simp; (try with_reducible rfl))
  try simp only [Act.put, List.setIfInBounds_toArray, List.set_cons_zero, List.set_cons_succ, List.getElem_toArray, List.getElem_cons_zero, List.getElem_cons_succ]
  refine' wpAnyH_take (i := 4) (v := undef) rfl (by kernel_rfl) (by kernel_rfl) (by kernel_rfl) (fun _ _ _ h => h) (Or.inr ⟨by rfl, rfl⟩) (by assumption) ?_
  try simp only [Act.put, List.setIfInBounds_toArray, List.set_cons_zero, List.set_cons_succ, List.getElem_toArray, List.getElem_cons_zero, List.getElem_cons_succ]
  refine' wpAnyH_take (i := 5) (v := undef) rfl (by kernel_rfl) (by kernel_rfl) (by kernel_rfl) (fun _ _ _ h => h) (Or.inr ⟨by rfl, rfl⟩) (by assumption) ?_
  try simp only [Act.put, List.setIfInBounds_toArray, List.set_cons_zero, List.set_cons_succ, List.getElem_toArray, List.getElem_cons_zero, List.getElem_cons_succ]
  refine' wpAnyH_take (i := 6) (v := undef) rfl (by kernel_rfl) (by kernel_rfl) (by kernel_rfl) (fun _ _ _ h => h) (Or.inr ⟨by rfl, rfl⟩) (by assumption) ?_
  try simp only [Act.put, List.setIfInBounds_toArray, List.set_cons_zero, List.set_cons_succ, List.getElem_toArray, List.getElem_cons_zero, List.getElem_cons_succ]
  refine' wpAnyH_take (i := 7) (v := undef) rfl (by kernel_rfl) (by kernel_rfl) (by kernel_rfl) (fun _ _ _ h => h) (Or.inr ⟨by rfl, rfl⟩) (by assumption) ?_
  try simp only [Act.put, List.setIfInBounds_toArray, List.set_cons_zero, List.set_cons_succ, List.getElem_toArray, List.getElem_cons_zero, List.getElem_cons_succ]
  refine' wpAnyH_take (i := 8) (v := _) rfl (by kernel_rfl) (by kernel_rfl) (by kernel_rfl) (fun _ _ _ h => h) (Or.inl ⟨by rfl, ?_⟩) (by assumption) ?_
  rotate_left 1
  · (intro w0 hSw; (try dsimp only at hSw); go_split_ands; go_simp; (try with_reducible rfl))
  try simp only [Act.put, List.setIfInBounds_toArray, List.set_cons_zero, List.set_cons_succ, List.getElem_toArray, List.getElem_cons_zero, List.getElem_cons_succ]
  refine' wpAnyH_take (i := 9) (v := _) rfl (by kernel_rfl) (by kernel_rfl) (by kernel_rfl) (fun _ _ _ h => h) (Or.inl ⟨by rfl, ?_⟩) (by assumption) ?_
  rotate_left 1
  · (intro w0 hSw; (try dsimp only at hSw); go_split_ands; go_simp; (try with_reducible rfl))
  try simp only [Act.put, List.setIfInBounds_toArray, List.set_cons_zero, List.set_cons_succ, List.getElem_toArray, List.getElem_cons_zero, List.getElem_cons_succ]
  refine' wpAnyH_take (i := 10) (v := _) rfl (by kernel_rfl) (by kernel_rfl) (by kernel_rfl) (fun _ _ _ h => h) (Or.inl ⟨by rfl, ?_⟩) (by assumption) ?_
  rotate_left 1
  · (intro w0 hSw; (try dsimp only at hSw); go_split_ands; go_simp; (try with_reducible rfl))
  try simp only [Act.put, List.setIfInBounds_toArray, List.set_cons_zero, List.set_cons_succ, List.getElem_toArray, List.getElem_cons_zero, List.getElem_cons_succ]
  refine' wpAnyH_take (i := 11) (v := _) rfl (by kernel_rfl) (by kernel_rfl) (by kernel_rfl) (fun _ _ _ h => h) (Or.inl ⟨by rfl, ?_⟩) (by assumption) ?_
  rotate_left 1
  · (intro w0 hSw; (try dsimp only at hSw); go_split_ands; go_simp; (try with_reducible rfl))
  try simp only [Act.put, List.setIfInBounds_toArray, List.set_cons_zero, List.set_cons_succ, List.getElem_toArray, List.getElem_cons_zero, List.getElem_cons_succ]
  refine' wpAnyH_take (i := 12) (v := _) rfl (by kernel_rfl) (by kernel_rfl) (by kernel_rfl) (fun _ _ _ h => h) (Or.inl ⟨by rfl, ?_⟩) (by assumption) ?_
  rotate_left 1
  · (intro w0 hSw; (try dsimp only at hSw); go_split_ands; go_simp; (try with_reducible rfl))
  try simp only [Act.put, List.setIfInBounds_toArray, List.set_cons_zero, List.set_cons_succ, List.getElem_toArray, List.getElem_cons_zero, List.getElem_cons_succ]
  refine' wpAnyH_take (i := 13) (v := _) rfl (by kernel_rfl) (by kernel_rfl) (by kernel_rfl) (fun _ _ _ h => h) (Or.inl ⟨by rfl, ?_⟩) (by assumption) ?_
  rotate_left 1
  · (intro w0 hSw; (try dsimp only at hSw); go_split_ands; go_simp; (try with_reducible rfl))
  try simp only [Act.put, List.setIfInBounds_toArray, List.set_cons_zero, List.set_cons_succ, List.getElem_toArray, List.getElem_cons_zero, List.getElem_cons_succ]
  refine' wpAnyH_take (i := 14) (v := _) rfl (by kernel_rfl) (by kernel_rfl) (by kernel_rfl) (fun _ _ _ h => h) (Or.inl ⟨by rfl, ?_⟩) (by assumption) ?_
  rotate_left 1
  · (intro w0 hSw; (try dsimp only at hSw); go_split_ands; go_simp; (try with_reducible rfl))
  try simp only [Act.put, List.setIfInBounds_toArray, List.set_cons_zero, List.set_cons_succ, List.getElem_toArray, List.getElem_cons_zero, List.getElem_cons_succ]
  refine' wpAnyH_take (i := 15) (v := _) rfl (by kernel_rfl) (by kernel_rfl) (by kernel_rfl) (fun _ _ _ h => h) (Or.inl ⟨by rfl, ?_⟩) (by assumption) ?_
  rotate_left 1
  · (intro w0 hSw; (try dsimp only at hSw); go_split_ands; go_simp; (try with_reducible rfl))
  try simp only [Act.put, List.setIfInBounds_toArray, List.set_cons_zero, List.set_cons_succ, List.getElem_toArray, List.getElem_cons_zero, List.getElem_cons_succ]
  refine' wpAnyH_take (i := 16) (v := _) rfl (by kernel_rfl) (by kernel_rfl) (by kernel_rfl) (fun _ _ _ h => h) (Or.inl ⟨by rfl, ?_⟩) (by assumption) ?_
  rotate_left 1
  · (intro w0 hSw; (try dsimp only at hSw); go_split_ands; go_simp; (try with_reducible rfl))
  try simp only [Act.put, List.setIfInBounds_toArray, List.set_cons_zero, List.set_cons_succ, List.getElem_toArray, List.getElem_cons_zero, List.getElem_cons_succ]
  refine' wpAnyH_take (i := 17) (v := _) rfl (by kernel_rfl) (by kernel_rfl) (by kernel_rfl) (fun _ _ _ h => h) (Or.inl ⟨by rfl, ?_⟩) (by assumption) ?_
  rotate_left 1
  · (intro w0 hSw; (try dsimp only at hSw); go_split_ands; go_simp; (try with_reducible rfl))
  try simp only [Act.put, List.setIfInBounds_toArray, List.set_cons_zero, List.set_cons_succ, List.getElem_toArray, List.getElem_cons_zero, List.getElem_cons_succ]
  refine' wpAnyH_take (i := 18) (v := _) rfl (by kernel_rfl) (by kernel_rfl) (by kernel_rfl) (fun _ _ _ h => h) (Or.inl ⟨by rfl, ?_⟩) (by assumption) ?_
  rotate_left 1
  · (intro w0 hSw; (try dsimp only at hSw); go_split_ands; go_simp; (try with_reducible rfl))
  try simp only [Act.put, List.setIfInBounds_toArray, List.set_cons_zero, List.set_cons_succ, List.getElem_toArray, List.getElem_cons_zero, List.getElem_cons_succ]
  refine' wpAnyH_take (i := 19) (v := _) rfl (by kernel_rfl) (by kernel_rfl) (by kernel_rfl) (fun _ _ _ h => h) (Or.inl ⟨by rfl, ?_⟩) (by assumption) ?_
  rotate_left 1
  · (intro w0 hSw; (try dsimp only at hSw); go_split_ands; go_simp; (try with_reducible rfl))
  try simp only [Act.put, List.setIfInBounds_toArray, List.set_cons_zero, List.set_cons_succ, List.getElem_toArray, List.getElem_cons_zero, List.getElem_cons_succ]
  refine' wpAnyH_take (i := 20) (v := _) rfl (by kernel_rfl) (by kernel_rfl) (by kernel_rfl) (fun _ _ _ h => h) (yieldsIf_load_mid (by rfl) 27 (.tmp 28) rfl w.heap.size 2 rfl (p.bits.map B) _ (fun _ h => h.1.2) Try.underlying27 rfl HS32.out) (by assumption) ?_
  try simp only [Act.put, List.setIfInBounds_toArray, List.set_cons_zero, List.set_cons_succ, List.getElem_toArray, List.getElem_cons_zero, List.getElem_cons_succ]
  refine wpAnyH_ready (rs := [21]) (by kernel_rfl) (by simp) ?_
  refine AllReadyH.cons rfl (fun K hK => ?_) AllReadyH.nil
  go_simp
  refine (HCO.out _).mono ?_
  rintro e w1 ⟨rfl, hk1⟩
  have hk1a : Keeps [] wa w1 := ((Keeps.refl _ _).drew).trans (G := []) hk1 (by simp)
  refine hK.out _ _ ?_ (fun hHeld => ?_)
  · exact ⟨HT.out _ hk1a, hk1a⟩
  clear hK K
  try simp only [Act.put, List.setIfInBounds_toArray, List.set_cons_zero, List.set_cons_succ, List.getElem_toArray, List.getElem_cons_zero, List.getElem_cons_succ]
  refine' wpAnyH_take (i := 22) (v := _) rfl (by kernel_rfl) (by kernel_rfl) (by kernel_rfl) (fun _ _ _ h => h) (Or.inl ⟨by rfl, ?_⟩) (by assumption) ?_
  rotate_left 1
  · (intro w0 hSw; (try dsimp only at hSw); go_split_ands; go_simp; (try with_reducible rfl))
  try simp only [Act.put, List.setIfInBounds_toArray, List.set_cons_zero, List.set_cons_succ, List.getElem_toArray, List.getElem_cons_zero, List.getElem_cons_succ]
  refine' wpAnyH_take (i := 23) (v := _) rfl (by kernel_rfl) (by kernel_rfl) (by kernel_rfl) (fun _ _ _ h => h) (Or.inl ⟨by rfl, ?_⟩) (by assumption) ?_
  rotate_left 1
  · (intro w0 hSw; (try dsimp only at hSw); go_split_ands; go_simp; (try with_reducible rfl))
  try simp only [Act.put, List.setIfInBounds_toArray, List.set_cons_zero, List.set_cons_succ, List.getElem_toArray, List.getElem_cons_zero, List.getElem_cons_succ]
  refine wpAnyH_done (by kernel_rfl) ?_ _
  have hs1a := hk1a.size
  obtain ⟨⟨q0, q1, q34⟩, _⟩ := HT.out w1 hk1a
  have y1 : w.heap.size < w1.heap.size := by omega
  obtain ⟨B0, hB0⟩ : ∃ B0, B0 = w1.heap.size := ⟨_, rfl⟩
  obtain ⟨wb, hwb⟩ : ∃ wb, wb = (w1.alloc (.cells #[.int .u8 0] 5 (0, 0))).alloc (.cells #[.int .u8 1, .int .u8 ((p.val.length : Int) % 256), .int .u8 ((p.val.length : Int) / 256)] 5 (0, 0)) := ⟨_, rfl⟩
  have hown : wb.ownsRow B0 5 1 (.slice (some ⟨w1.heap.size + 1, 0, none⟩) 3 3) (3 + 0) (([1, UInt8.ofNat p.val.length, 0] ++ p.val.take 0).map B) := by
    rw [List.take_zero, List.append_nil, hwb, lit3m h1]
    exact owns_of_block (l := [1, UInt8.ofNat p.val.length, 0]) (heap_new_at (by simp)) (by omega) (by simp)
  have Kb : Keeps [] wa wb := by rw [hwb]; exact (hk1a.alloc _).alloc _
  have hsb : B0 ≤ wb.heap.size := by rw [hB0, hwb]; simp; omega
  have HWB := Lib.hid hwb
  have HOWN0 := Lib.hid hown
  have HKB := Lib.hid Kb
  have hwB : wa.heap.size ≤ B0 := by omega
  clear hwb hown Kb hB0
  go_upto_region 6 with fail
  rw [← HWB.out]
  clear q0 q1 q34
  go_wp2_with fail
  go_loopw [4, 5] (fun rv i wr => ∃ k : Nat, k ≤ p.val.length ∧ i = .int .i64 k ∧ wr.ownsRow B0 5 1 rv (3 + k) (([1, UInt8.ofNat p.val.length, 0] ++ p.val.take k).map B) ∧ Keeps [] wa wr ∧ B0 ≤ wr.heap.size) (fun _ i _ => p.val.length - (intOf i).toNat)
  case atStart => exact ⟨0, Nat.zero_le _, rfl, HOWN0.out, HKB.out, hsb⟩
  case round =>
    obtain ⟨k, hk, rfl, hown, hkr, hszr⟩ := hrel
    have hov := hown.lt
    obtain ⟨OL, hOL⟩ : ∃ OL, OL = ([1, UInt8.ofNat p.val.length, 0] ++ p.val.take k).map B := ⟨_, rfl⟩
    rw [← hOL] at hown
    have HOL := Lib.hid hOL
    have HOWN := Lib.hid hown
    have HKR := Lib.hid hkr
    have hs1w := hkr.size
    clear hown hOL
    by_cases hlt : k < p.val.length
    · obtain ⟨⟨_, q1, _⟩, _⟩ := HT.out wr hkr
      obtain ⟨g1, o1, rfl, hg1, hr1⟩ := HV.out.at (by omega)
      obtain ⟨x, hx⟩ : ∃ x, p.val[k]? = some x := ⟨p.val[k], List.getElem?_eq_getElem hlt⟩
      have e1 := range_byte (w' := wr) hr1 ((hka.trans (G := []) hkr (by simp)).block g1 hg1 (by simp)) hx
      have b0 : (0 : Int) ≤ (k : Int) := by omega
      have b1 : (k : Int) < (p.val.length : Int) := by omega
      clear hr1
      have hbx : BytesAt (wr.alloc (.cells #[.int .u8 x.toNat] 5 (0, 0))) (.slice (some ⟨wr.heap.size, 0, none⟩) 1 1) [x] := bytes_of_block (l := [x]) (heap_new_at rfl)
      have HX' := Lib.hid hx
      have HBX := Lib.hid hbx
      clear hx hbx hkr
      go_wp2_with (refine wpList_append_bytes rfl (.tmp 54) (.tmp 60) rfl B0 _ (3 + k) OL (by rfl) (HOWN.out.alloc _) _ [x] (by rfl) HBX.out (by simp; omega) (by simp; omega) ?_)
      intro vn wn hon hgn
      have hsn := hgn.size
      simp at hsn
      have HON := Lib.hid hon
      have HGN := Lib.hid hgn
      clear hon hgn
      go_wp2_with fail
      go_roundw
      case rel =>
        refine ⟨k + 1, by omega, by go_num, ?_, (HKR.out.alloc _).grown HGN.out (fun j hj => .inr (by have := (hov j hj).1; omega)), by omega⟩
        have h := HON.out
        rw [HOL.out, show ([B x] : List Value) = [x].map B from rfl, ← List.map_append] at h
        rw [List.append_assoc] at h
        rw [show p.val.take (k + 1) = p.val.take k ++ [x] from by rw [List.take_add_one, HX'.out]; rfl, show 3 + (k + 1) = 3 + k + 1 from by omega]
        exact h
      case measure => simp [intOf]; omega
    · have ek : k = p.val.length := by omega
      subst ek
      obtain ⟨⟨_, q1, _⟩, _⟩ := HT.out wr hkr
      have hh : p.head = [1, UInt8.ofNat p.val.length, 0] ++ p.val := by unfold Pf.head; rw [HF.out]; rfl
      have ho10 : wr.ownsRow B0 5 1 u4 (3 + p.val.length + 0) ((p.head ++ p.bits.take 0).map B) := by
        have h := HOWN.out
        rw [HOL.out, List.take_length, ← hh] at h
        simpa using h
      have HO10 := Lib.hid ho10
      have HK10 := Lib.hid hkr
      obtain ⟨wo, rfl⟩ : ∃ wo : World, wo = wr := ⟨_, rfl⟩
      clear hh ho10 hkr
      go_wp2_with fail
      go_loopw [4, 6] (fun rv i wr => ∃ k : Nat, k ≤ 32 ∧ i = .int .i64 k ∧ wr.ownsRow B0 5 1 rv ((3 + p.val.length) + k) ((p.head ++ p.bits.take k).map B) ∧ Keeps [] wa wr ∧ B0 ≤ wr.heap.size) (fun _ i _ => 32 - (intOf i).toNat)
      case atStart => exact ⟨0, by omega, rfl, HO10.out, HK10.out, hszr⟩
      case round =>
        obtain ⟨k, hk, rfl, hown, hkr, hszr⟩ := hrel
        have hov := hown.lt
        obtain ⟨OL, hOL⟩ : ∃ OL, OL = (p.head ++ p.bits.take k).map B := ⟨_, rfl⟩
        rw [← hOL] at hown
        have HOL := Lib.hid hOL
        have HOWN := Lib.hid hown
        have HKR := Lib.hid hkr
        have hs1w := hkr.size
        clear hown hOL
        by_cases hlt : k < 32
        · obtain ⟨x, hx⟩ : ∃ x, p.bits[k]? = some x := ⟨p.bits[k]'(by rw [HB.out]; exact hlt), List.getElem?_eq_getElem _⟩
          have e1 : wr.cell? ⟨w.heap.size, 2 + k, none⟩ = some (.int .u8 x.toNat) := (HT.out wr hkr).2 k (B x) (by rw [List.getElem?_map, hx]; rfl)
          have b0 : (0 : Int) ≤ (k : Int) := by omega
          have b1 : (k : Int) < 32 := by omega
          have hbx : BytesAt (wr.alloc (.cells #[.int .u8 x.toNat] 5 (0, 0))) (.slice (some ⟨wr.heap.size, 0, none⟩) 1 1) [x] := bytes_of_block (l := [x]) (heap_new_at rfl)
          have HX' := Lib.hid hx
          have HBX := Lib.hid hbx
          clear hx hbx hkr
          go_wp2_with (refine wpList_append_bytes rfl (.tmp 66) (.tmp 71) rfl B0 _ ((3 + p.val.length) + k) OL (by rfl) (HOWN.out.alloc _) _ [x] (by rfl) HBX.out (by simp; omega) (by simp; omega) ?_)
          intro vn wn hon hgn
          have hsn := hgn.size
          simp at hsn
          have HON := Lib.hid hon
          have HGN := Lib.hid hgn
          clear hon hgn
          go_wp2_with fail
          go_roundw
          case rel =>
            refine ⟨k + 1, by omega, by go_num, ?_, (HKR.out.alloc _).grown HGN.out (fun j hj => .inr (by have := (hov j hj).1; omega)), by omega⟩
            have h := HON.out
            rw [HOL.out, show ([B x] : List Value) = [x].map B from rfl, ← List.map_append] at h
            rw [List.append_assoc] at h
            rw [show p.bits.take (k + 1) = p.bits.take k ++ [x] from by rw [List.take_add_one, HX'.out]; rfl, show (3 + p.val.length) + (k + 1) = (3 + p.val.length) + k + 1 from by omega]
            exact h
          case measure => simp [intOf]; omega
        · have ek : k = 32 := by omega
          subst ek
          have etk : p.bits.take 32 = p.bits := List.take_of_length_le (by rw [HB.out]; exact Nat.le_refl _)
          rw [etk] at HOL
          clear etk
          simp only [show ((32 : Nat) : Int) = 32 from rfl]
          have ho14 : wr.ownsRow B0 5 1 u4 ((3 + p.val.length) + 32 + 32 * 0) ((p.head ++ p.bits ++ (p.sums.take 0).flatten).map B) := by
            have h := HOWN.out
            rw [HOL.out] at h
            simpa using h
          have HO14 := Lib.hid ho14
          have HK14 := Lib.hid hkr
          have hsz14 := hszr
          obtain ⟨wp, rfl⟩ : ∃ wp : World, wp = wr := ⟨_, rfl⟩
          clear hkr ho14
          go_wp2_with fail
          go_loopw [4, 7] (fun rv i wr => ∃ k : Nat, k ≤ p.sums.length ∧ i = .int .i64 k ∧ wr.ownsRow B0 5 1 rv ((3 + p.val.length) + 32 + 32 * k) ((p.head ++ p.bits ++ (p.sums.take k).flatten).map B) ∧ Keeps [] wa wr ∧ B0 ≤ wr.heap.size) (fun _ i _ => p.sums.length - (intOf i).toNat)
          case atStart => exact ⟨0, Nat.zero_le _, rfl, HO14.out, HK14.out, hsz14⟩
          case round =>
            obtain ⟨k, hk, rfl, hown, hkr, hsz18⟩ := hrel
            obtain ⟨⟨_, _, q34⟩, _⟩ := HT.out wr hkr
            obtain ⟨OL, hOL⟩ : ∃ OL, OL = (p.head ++ p.bits ++ (p.sums.take k).flatten).map B := ⟨_, rfl⟩
            have HK18 := Lib.hid hkr
            by_cases hlt0 : k < p.sums.length
            · obtain ⟨g2, o2, rfl, hg2, hr2⟩ := HS.out.at (by omega)
              have hql := HD.out _ (List.getElem_mem hlt0)
              have hqr := SumsAt.row hr2 HD.out hlt0 rfl
              obtain ⟨q, hq⟩ : ∃ q, q = p.sums[k] := ⟨_, rfl⟩
              rw [← hq] at hql hqr
              have ho18 : wr.ownsRow B0 5 1 u4 ((3 + p.val.length) + 32 + 32 * k + 0) ((p.head ++ p.bits ++ (p.sums.take k).flatten ++ q.take 0).map B) := by
                rw [List.take_zero, List.append_nil]
                exact hown
              have HO18 := Lib.hid ho18
              have HQ := Lib.hid hq
              have HQL := Lib.hid hql
              have HQR := Lib.hid hqr
              have c1' : (k : Int) < (p.sums.length : Int) := by omega
              obtain ⟨wq, rfl⟩ : ∃ wq : World, wq = wr := ⟨_, rfl⟩
              clear hq hql hqr hr2 ho18 hown hkr hOL
              go_wp2_with fail
              go_loopw [4, 8] (fun rv i wr => ∃ j : Nat, j ≤ 32 ∧ i = .int .i64 j ∧ wr.ownsRow B0 5 1 rv ((3 + p.val.length) + 32 + 32 * k + j) ((p.head ++ p.bits ++ (p.sums.take k).flatten ++ q.take j).map B) ∧ Keeps [] wa wr ∧ B0 ≤ wr.heap.size) (fun _ i _ => 32 - (intOf i).toNat)
              case atStart => exact ⟨0, by omega, rfl, HO18.out, HK18.out, hsz18⟩
              case round =>
                obtain ⟨j, hk, rfl, hown, hkr, hszr⟩ := hrel
                have hov := hown.lt
                obtain ⟨OL, hOL⟩ : ∃ OL, OL = (p.head ++ p.bits ++ (p.sums.take k).flatten ++ q.take j).map B := ⟨_, rfl⟩
                rw [← hOL] at hown
                have HOL := Lib.hid hOL
                have HOWN := Lib.hid hown
                have HKR := Lib.hid hkr
                have hs1w := hkr.size
                clear hown hOL
                by_cases hlt : j < 32
                · obtain ⟨⟨_, _, q34⟩, _⟩ := HT.out wr hkr
                  obtain ⟨x, hx⟩ : ∃ x, q[j]? = some x := ⟨q[j]'(by rw [HQL.out]; exact hlt), List.getElem?_eq_getElem _⟩
                  have e1 : wr.cell? ⟨g2, o2 + k * 32 + j, none⟩ = some (.int .u8 x.toNat) := rangeAt_of_heap (HQR.out) ((hka.trans (G := []) hkr (by simp)).block g2 hg2 (by simp)) j (B x) (by rw [List.getElem?_map, hx]; rfl)
                  have b0 : (0 : Int) ≤ (j : Int) := by omega
                  have b1 : (j : Int) < 32 := by omega
                  have c0 : (0 : Int) ≤ (k : Int) := by omega
                  have c1' : (k : Int) < (p.sums.length : Int) := by omega
                  have hbx : BytesAt (wr.alloc (.cells #[.int .u8 x.toNat] 5 (0, 0))) (.slice (some ⟨wr.heap.size, 0, none⟩) 1 1) [x] := bytes_of_block (l := [x]) (heap_new_at rfl)
                  have HX' := Lib.hid hx
                  have HBX := Lib.hid hbx
                  clear hx hbx hkr
                  go_wp2_with (refine wpList_append_bytes rfl (.tmp 84) (.tmp 92) rfl B0 _ ((3 + p.val.length) + 32 + 32 * k + j) OL (by rfl) (HOWN.out.alloc _) _ [x] (by rfl) HBX.out (by simp; omega) (by simp; omega) ?_)
                  intro vn wn hon hgn
                  have hsn := hgn.size
                  simp at hsn
                  have HON := Lib.hid hon
                  have HGN := Lib.hid hgn
                  clear hon hgn
                  go_wp2_with fail
                  go_roundw
                  case rel =>
                    refine ⟨j + 1, by omega, by go_num, ?_, (HKR.out.alloc _).grown HGN.out (fun j hj => .inr (by have := (hov j hj).1; omega)), by omega⟩
                    have h := HON.out
                    rw [HOL.out, show ([B x] : List Value) = [x].map B from rfl, ← List.map_append] at h
                    rw [List.append_assoc] at h
                    rw [show q.take (j + 1) = q.take j ++ [x] from by rw [List.take_add_one, HX'.out]; rfl, show (3 + p.val.length) + 32 + 32 * k + (j + 1) = (3 + p.val.length) + 32 + 32 * k + j + 1 from by omega]
                    exact h
                  case measure => simp [intOf]; omega
                · have ek : j = 32 := by omega
                  subst ek
                  have etk : q.take 32 = q := List.take_of_length_le (by rw [HQL.out]; exact Nat.le_refl _)
                  rw [etk] at HOL
                  clear etk
                  simp only [show ((32 : Nat) : Int) = 32 from rfl]
                  clear hkr
                  go_wp2_with fail
                  go_roundw
                  case rel =>
                    refine ⟨k + 1, by omega, by go_num, ?_, HKR.out, hszr⟩
                    have h := HOWN.out
                    rw [HOL.out] at h
                    rw [show (p.sums.take (k + 1)).flatten = (p.sums.take k).flatten ++ q from by rw [List.take_succ_eq_append_getElem hlt0, ← HQ.out]; simp, ← List.append_assoc, show (3 + p.val.length) + 32 + 32 * (k + 1) = (3 + p.val.length) + 32 + 32 * k + 32 from by omega]
                    exact h
                  case measure => simp [intOf]; omega
            · have ek : k = p.sums.length := by omega
              subst ek
              have HOW := Lib.hid hown
              clear hown hOL
              go_wp2_with fail
              go_ret2
              have h := HOW.out
              rw [List.take_length] at h
              have hl : p.enc.length = (3 + p.val.length) + 32 + 32 * p.sums.length := by have := h.1; rw [List.length_map, Nat.mul_one] at this; exact this
              refine ⟨u4, rfl, ?_, hka.trans (G := []) HK18.out (by simp)⟩
              unfold OwnB
              rw [hl]
              exact ownsRow_base h
set_option maxRecDepth 100000 in
set_option maxHeartbeats 3200000 in
theorem refEncode_absent {w : World} {v : Value} {p : Pf} (hp : PfIn w v p) (hw : p.well = true) (hf : p.found = false) :
    Calls Try.prog 24 #[v] w fun e w' => ∃ rv, e = .returned (.tuple #[rv, .int .i64 0]) ∧ OwnB w' rv p.enc ∧ Keeps [] w w' := by
  obtain ⟨vv, sv, rfl, hv, hs, hb, hd⟩ := hp
  obtain ⟨a1, c1, rfl, hc1, hm1⟩ := hv.form
  obtain ⟨a2, c2, rfl, hc2, hm2⟩ := hs.form
  unfold maxLen at hm1 hm2
  obtain ⟨C, hC⟩ : ∃ C, C = pfCells p (.slice a1 p.val.length c1) (.slice a2 p.sums.length c2) := ⟨_, rfl⟩
  rw [← hC]
  have hcl := fun (wx : World) (hx : wx.heap[w.heap.size]? = some (.cells C.toArray 30 (0, 0))) => And.intro (pf_cells (hC ▸ hx) hb) (pf_bits (hC ▸ hx) hb)
  obtain ⟨wa, hwa⟩ : ∃ wa, wa = w.alloc (.cells C.toArray 30 (0, 0)) := ⟨_, rfl⟩
  have hbx : wa.heap[w.heap.size]? = some (.cells C.toArray 30 (0, 0)) := by rw [hwa, heap_new_at rfl]
  have hka : Keeps [] w wa := by rw [hwa]; exact (Keeps.refl _ _).alloc _
  obtain ⟨fd, hfd⟩ : ∃ fd, fd = p.found := ⟨_, rfl⟩
  rw [← hfd] at hcl
  have y0 := lt_of_heap hbx
  have ht : ∀ wx, Keeps [] wa wx → (wx.cell? ⟨w.heap.size, 0, none⟩ = some (.bool fd) ∧ wx.cell? ⟨w.heap.size, 1, none⟩ = some (Value.slice a1 p.val.length c1) ∧ wx.cell? ⟨w.heap.size, 34, none⟩ = some (Value.slice a2 p.sums.length c2)) ∧ wx.rangeAt w.heap.size 2 (p.bits.map B) := fun wx hk => hcl wx ((hk.block _ y0 (by simp)).trans hbx)
  have HT := Lib.hid ht
  have HW := Lib.hid hwa
  have HFD := Lib.hid hfd
  have HS32 := Lib.hid (size_32_of hb)
  have HB := Lib.hid hb
  have HV := Lib.hid hv
  have HS := Lib.hid hs
  have HD := Lib.hid hd
  have hwell : p.well = ((fd || p.val.length == 0) && decide (p.val.length ≤ 128) && p.sums.length == onesOf p.bits) := by rw [hfd]; rfl
  rw [hw] at hwell
  have HX := Lib.hid hbx
  have hcO := fun (w : World) => refOnes_any (w := w) p.bits hb
  obtain ⟨m, hm⟩ : ∃ m, m = onesOf p.bits := ⟨_, rfl⟩
  rw [← hm] at hwell hcO
  have HCO := Lib.hid hcO
  have HM := Lib.hid hm
  have hbl := onesOf_le p.bits
  rw [hb, ← hm] at hbl
  clear hC hcl hv hs hb hd hfd hw hbx ht hwa hcO hm
  have hf2 : fd = false := HFD.out.trans hf
  subst hf2
  replace hwell := hwell.symm
  simp only [Bool.false_or, Bool.true_and, Bool.and_eq_true, decide_eq_true_eq, beq_iff_eq] at hwell
  obtain ⟨⟨h3, h1⟩, h4⟩ := hwell
  have ht2 := HT.out
  rw [h3] at ht2
  have HT2 := Lib.hid ht2
  obtain ⟨i0, hi0, hz0, hz1, hz2⟩ := info_parts info_u8
  have HI0 := Lib.hid hi0
  have HZ0 := Lib.hid hz0
  have HZ1 := Lib.hid hz1
  have HZ2 := Lib.hid hz2
  have g1 : decide ((128 : Int) < (p.val.length : Int)) = false := by simp; omega
  have g3 : ((p.sums.length : Int) != (m : Int)) = false := by rw [h4]; simp
  have H4 := Lib.hid h4
  have HF := Lib.hid hf
  have h4' : p.sums.length ≤ 256 := by omega
  have H3 := Lib.hid h3
  clear h4 hf hi0 hz0 hz1 hz2 ht2 h3
  go_enter Try.func24, Try.ntmps24
  go_wp2_with fail
  rw [← HW.out]
  refine wp_region_held_drew (S := (fun w' => ((w'.cell? ⟨w.heap.size, 0, none⟩ = some (.bool false) ∧ w'.cell? ⟨w.heap.size, 1, none⟩ = some (Value.slice a1 0 c1) ∧ w'.cell? ⟨w.heap.size, 34, none⟩ = some (Value.slice a2 p.sums.length c2)) ∧ w'.rangeAt w.heap.size 2 (p.bits.map B)) ∧ Keeps [] wa w')) (by kernel_rfl) ?_ (fun hHeld => ?_)
  · exact ⟨HT2.out _ (Keeps.refl _ _).drew, (Keeps.refl _ _).drew⟩
  refine' wpAnyH_take (i := 0) (v := _) rfl (by kernel_rfl) (by kernel_rfl) (by kernel_rfl) (fun _ _ _ h => h) (Or.inl ⟨by rfl, ?_⟩) (by assumption) ?_
  rotate_left 1
  · (intro w0 hSw; (try dsimp only at hSw); go_split_ands; go_simp; (try with_reducible rfl))
  try simp only [Act.put, List.setIfInBounds_toArray, List.set_cons_zero, List.set_cons_succ, List.getElem_toArray, List.getElem_cons_zero, List.getElem_cons_succ]
  refine' wpAnyH_take (i := 1) (v := _) rfl (by kernel_rfl) (by kernel_rfl) (by kernel_rfl) (fun _ _ _ h => h) (Or.inl ⟨by rfl, ?_⟩) (by assumption) ?_
  rotate_left 1
  · (intro w0 hSw; (try dsimp only at hSw); go_split_ands; go_simp; (try with_reducible rfl))
  try simp only [Act.put, List.setIfInBounds_toArray, List.set_cons_zero, List.set_cons_succ, List.getElem_toArray, List.getElem_cons_zero, List.getElem_cons_succ]
  refine' wpAnyH_take (i := 2) (v := _) rfl (by kernel_rfl) (by kernel_rfl) (by kernel_rfl) (fun _ _ _ h => h) (Or.inl ⟨by rfl, ?_⟩) (by assumption) ?_
  rotate_left 1
  · (intro w0 hSw; (try dsimp only at hSw); go_split_ands; go_simp; (try with_reducible rfl))
  try simp only [Act.put, List.setIfInBounds_toArray, List.set_cons_zero, List.set_cons_succ, List.getElem_toArray, List.getElem_cons_zero, List.getElem_cons_succ]
  refine' wpAnyH_take (i := 3) (v := _) rfl (by kernel_rfl) (by kernel_rfl) (by kernel_rfl) (fun _ _ _ h => h) (Or.inl ⟨by rfl, ?_⟩) (by assumption) ?_
  rotate_left 1
  · (intro w0 hSw; (try dsimp only at hSw); go_split_ands; go_simp; (try with_reducible rfl))
  try simp only [Act.put, List.setIfInBounds_toArray, List.set_cons_zero, List.set_cons_succ, List.getElem_toArray, List.getElem_cons_zero, List.getElem_cons_succ]
  refine' wpAnyH_take (i := 4) (v := _) rfl (by kernel_rfl) (by kernel_rfl) (by kernel_rfl) (fun _ _ _ h => h) (Or.inl ⟨by rfl, ?_⟩) (by assumption) ?_
  rotate_left 1
  · (intro w0 hSw; (try dsimp only at hSw); go_split_ands; go_simp; (try with_reducible rfl))
  try simp only [Act.put, List.setIfInBounds_toArray, List.set_cons_zero, List.set_cons_succ, List.getElem_toArray, List.getElem_cons_zero, List.getElem_cons_succ]
  refine' wpAnyH_take (i := 5) (v := _) rfl (by kernel_rfl) (by kernel_rfl) (by kernel_rfl) (fun _ _ _ h => h) (Or.inl ⟨by rfl, ?_⟩) (by assumption) ?_
  rotate_left 1
  · (intro w0 hSw; (try dsimp only at hSw); go_split_ands; go_simp; (try with_reducible rfl))
  try simp only [Act.put, List.setIfInBounds_toArray, List.set_cons_zero, List.set_cons_succ, List.getElem_toArray, List.getElem_cons_zero, List.getElem_cons_succ]
  refine' wpAnyH_take (i := 6) (v := _) rfl (by kernel_rfl) (by kernel_rfl) (by kernel_rfl) (fun _ _ _ h => h) (Or.inl ⟨by rfl, ?_⟩) (by assumption) ?_
  rotate_left 1
  · (intro w0 hSw; (try dsimp only at hSw); go_split_ands; go_simp; (try with_reducible rfl))
  try simp only [Act.put, List.setIfInBounds_toArray, List.set_cons_zero, List.set_cons_succ, List.getElem_toArray, List.getElem_cons_zero, List.getElem_cons_succ]
  refine' wpAnyH_take (i := 7) (v := _) rfl (by kernel_rfl) (by kernel_rfl) (by kernel_rfl) (fun _ _ _ h => h) (Or.inl ⟨by rfl, ?_⟩) (by assumption) ?_
  rotate_left 1
  · (intro w0 hSw; (try dsimp only at hSw); go_split_ands; go_simp; (try with_reducible rfl))
  try simp only [Act.put, List.setIfInBounds_toArray, List.set_cons_zero, List.set_cons_succ, List.getElem_toArray, List.getElem_cons_zero, List.getElem_cons_succ]
  refine' wpAnyH_take (i := 8) (v := _) rfl (by kernel_rfl) (by kernel_rfl) (by kernel_rfl) (fun _ _ _ h => h) (Or.inl ⟨by rfl, ?_⟩) (by assumption) ?_
  rotate_left 1
  · (intro w0 hSw; (try dsimp only at hSw); go_split_ands; go_simp; (try with_reducible rfl))
  try simp only [Act.put, List.setIfInBounds_toArray, List.set_cons_zero, List.set_cons_succ, List.getElem_toArray, List.getElem_cons_zero, List.getElem_cons_succ]
  refine' wpAnyH_take (i := 9) (v := _) rfl (by kernel_rfl) (by kernel_rfl) (by kernel_rfl) (fun _ _ _ h => h) (Or.inl ⟨by rfl, ?_⟩) (by assumption) ?_
  rotate_left 1
  · (intro w0 hSw; (try dsimp only at hSw); go_split_ands; go_simp; (try with_reducible rfl))
  try simp only [Act.put, List.setIfInBounds_toArray, List.set_cons_zero, List.set_cons_succ, List.getElem_toArray, List.getElem_cons_zero, List.getElem_cons_succ]
  refine' wpAnyH_take (i := 10) (v := _) rfl (by kernel_rfl) (by kernel_rfl) (by kernel_rfl) (fun _ _ _ h => h) (Or.inl ⟨by rfl, ?_⟩) (by assumption) ?_
  rotate_left 1
  · (intro w0 hSw; (try dsimp only at hSw); go_split_ands; go_simp; (try with_reducible rfl))
  try simp only [Act.put, List.setIfInBounds_toArray, List.set_cons_zero, List.set_cons_succ, List.getElem_toArray, List.getElem_cons_zero, List.getElem_cons_succ]
  refine' wpAnyH_take (i := 11) (v := _) rfl (by kernel_rfl) (by kernel_rfl) (by kernel_rfl) (fun _ _ _ h => h) (Or.inl ⟨by rfl, ?_⟩) (by assumption) ?_
  rotate_left 1
  · (intro w0 hSw; (try dsimp only at hSw); go_split_ands; go_simp; (try with_reducible rfl))
  try simp only [Act.put, List.setIfInBounds_toArray, List.set_cons_zero, List.set_cons_succ, List.getElem_toArray, List.getElem_cons_zero, List.getElem_cons_succ]
  refine' wpAnyH_take (i := 12) (v := _) rfl (by kernel_rfl) (by kernel_rfl) (by kernel_rfl) (fun _ _ _ h => h) (Or.inl ⟨by rfl, ?_⟩) (by assumption) ?_
  rotate_left 1
  · (intro w0 hSw; (try dsimp only at hSw); go_split_ands; go_simp; (try with_reducible rfl))
  try simp only [Act.put, List.setIfInBounds_toArray, List.set_cons_zero, List.set_cons_succ, List.getElem_toArray, List.getElem_cons_zero, List.getElem_cons_succ]
  refine' wpAnyH_take (i := 13) (v := _) rfl (by kernel_rfl) (by kernel_rfl) (by kernel_rfl) (fun _ _ _ h => h) (Or.inl ⟨by rfl, ?_⟩) (by assumption) ?_
  rotate_left 1
  · (intro w0 hSw; (try dsimp only at hSw); go_split_ands; go_simp; (try with_reducible rfl))
  try simp only [Act.put, List.setIfInBounds_toArray, List.set_cons_zero, List.set_cons_succ, List.getElem_toArray, List.getElem_cons_zero, List.getElem_cons_succ]
  refine' wpAnyH_take (i := 14) (v := _) rfl (by kernel_rfl) (by kernel_rfl) (by kernel_rfl) (fun _ _ _ h => h) (Or.inl ⟨by rfl, ?_⟩) (by assumption) ?_
  rotate_left 1
  · (intro w0 hSw; (try dsimp only at hSw); go_split_ands; go_simp; (try with_reducible rfl))
  try simp only [Act.put, List.setIfInBounds_toArray, List.set_cons_zero, List.set_cons_succ, List.getElem_toArray, List.getElem_cons_zero, List.getElem_cons_succ]
  refine' wpAnyH_take (i := 15) (v := _) rfl (by kernel_rfl) (by kernel_rfl) (by kernel_rfl) (fun _ _ _ h => h) (Or.inl ⟨by rfl, ?_⟩) (by assumption) ?_
  rotate_left 1
  · (intro w0 hSw; (try dsimp only at hSw); go_split_ands; go_simp; (try with_reducible rfl))
  try simp only [Act.put, List.setIfInBounds_toArray, List.set_cons_zero, List.set_cons_succ, List.getElem_toArray, List.getElem_cons_zero, List.getElem_cons_succ]
  refine' wpAnyH_take (i := 16) (v := _) rfl (by kernel_rfl) (by kernel_rfl) (by kernel_rfl) (fun _ _ _ h => h) (Or.inl ⟨by rfl, ?_⟩) (by assumption) ?_
  rotate_left 1
  · (intro w0 hSw; (try dsimp only at hSw); go_split_ands; go_simp; (try with_reducible rfl))
  try simp only [Act.put, List.setIfInBounds_toArray, List.set_cons_zero, List.set_cons_succ, List.getElem_toArray, List.getElem_cons_zero, List.getElem_cons_succ]
  refine' wpAnyH_take (i := 17) (v := _) rfl (by kernel_rfl) (by kernel_rfl) (by kernel_rfl) (fun _ _ _ h => h) (Or.inl ⟨by rfl, ?_⟩) (by assumption) ?_
  rotate_left 1
  · (intro w0 hSw; (try dsimp only at hSw); go_split_ands; go_simp; (try with_reducible rfl))
  try simp only [Act.put, List.setIfInBounds_toArray, List.set_cons_zero, List.set_cons_succ, List.getElem_toArray, List.getElem_cons_zero, List.getElem_cons_succ]
  refine' wpAnyH_take (i := 18) (v := _) rfl (by kernel_rfl) (by kernel_rfl) (by kernel_rfl) (fun _ _ _ h => h) (Or.inl ⟨by rfl, ?_⟩) (by assumption) ?_
  rotate_left 1
  · (intro w0 hSw; (try dsimp only at hSw); go_split_ands; go_simp; (try with_reducible rfl))
  try simp only [Act.put, List.setIfInBounds_toArray, List.set_cons_zero, List.set_cons_succ, List.getElem_toArray, List.getElem_cons_zero, List.getElem_cons_succ]
  refine' wpAnyH_take (i := 19) (v := _) rfl (by kernel_rfl) (by kernel_rfl) (by kernel_rfl) (fun _ _ _ h => h) (Or.inl ⟨by rfl, ?_⟩) (by assumption) ?_
  rotate_left 1
  · (intro w0 hSw; (try dsimp only at hSw); go_split_ands; go_simp; (try with_reducible rfl))
  try simp only [Act.put, List.setIfInBounds_toArray, List.set_cons_zero, List.set_cons_succ, List.getElem_toArray, List.getElem_cons_zero, List.getElem_cons_succ]
  refine' wpAnyH_take (i := 20) (v := _) rfl (by kernel_rfl) (by kernel_rfl) (by kernel_rfl) (fun _ _ _ h => h) (yieldsIf_load_mid (by rfl) 27 (.tmp 28) rfl w.heap.size 2 rfl (p.bits.map B) _ (fun _ h => h.1.2) Try.underlying27 rfl HS32.out) (by assumption) ?_
  try simp only [Act.put, List.setIfInBounds_toArray, List.set_cons_zero, List.set_cons_succ, List.getElem_toArray, List.getElem_cons_zero, List.getElem_cons_succ]
  refine wpAnyH_ready (rs := [21]) (by kernel_rfl) (by simp) ?_
  refine AllReadyH.cons rfl (fun K hK => ?_) AllReadyH.nil
  go_simp
  refine (HCO.out _).mono ?_
  rintro e w1 ⟨rfl, hk1⟩
  have hk1a : Keeps [] wa w1 := ((Keeps.refl _ _).drew).trans (G := []) hk1 (by simp)
  refine hK.out _ _ ?_ (fun hHeld => ?_)
  · exact ⟨HT2.out _ hk1a, hk1a⟩
  clear hK K
  try simp only [Act.put, List.setIfInBounds_toArray, List.set_cons_zero, List.set_cons_succ, List.getElem_toArray, List.getElem_cons_zero, List.getElem_cons_succ]
  refine' wpAnyH_take (i := 22) (v := _) rfl (by kernel_rfl) (by kernel_rfl) (by kernel_rfl) (fun _ _ _ h => h) (Or.inl ⟨by rfl, ?_⟩) (by assumption) ?_
  rotate_left 1
  · (intro w0 hSw; (try dsimp only at hSw); go_split_ands; go_simp; (try with_reducible rfl))
  try simp only [Act.put, List.setIfInBounds_toArray, List.set_cons_zero, List.set_cons_succ, List.getElem_toArray, List.getElem_cons_zero, List.getElem_cons_succ]
  refine' wpAnyH_take (i := 23) (v := _) rfl (by kernel_rfl) (by kernel_rfl) (by kernel_rfl) (fun _ _ _ h => h) (Or.inl ⟨by rfl, ?_⟩) (by assumption) ?_
  rotate_left 1
  · (intro w0 hSw; (try dsimp only at hSw); go_split_ands; go_simp; (try with_reducible rfl))
  try simp only [Act.put, List.setIfInBounds_toArray, List.set_cons_zero, List.set_cons_succ, List.getElem_toArray, List.getElem_cons_zero, List.getElem_cons_succ]
  refine wpAnyH_done (by kernel_rfl) ?_ _
  have hs1a := hk1a.size
  obtain ⟨⟨q0, q1, q34⟩, _⟩ := HT2.out w1 hk1a
  have y1 : w.heap.size < w1.heap.size := by omega
  obtain ⟨B0, hB0⟩ : ∃ B0, B0 = w1.heap.size := ⟨_, rfl⟩
  obtain ⟨wb, hwb⟩ : ∃ wb, wb = w1.alloc (.cells #[.int .u8 0] 5 (0, 0)) := ⟨_, rfl⟩
  have hown : wb.ownsRow B0 5 1 (.slice (some ⟨w1.heap.size, 0, none⟩) 1 1) 1 (([0] : List UInt8).map B) := by
    rw [hwb]
    exact owns_of_block (l := [0]) (heap_new_at rfl) (by omega) (by simp)
  have Kb : Keeps [] wa wb := by rw [hwb]; exact hk1a.alloc _
  have hsb : B0 ≤ wb.heap.size := by rw [hB0, hwb]; simp
  have HWB := Lib.hid hwb
  have HOWN0 := Lib.hid hown
  have HKB := Lib.hid Kb
  have hwB : wa.heap.size ≤ B0 := by omega
  clear hwb hown Kb hB0
  go_upto_region 10 with fail
  rw [← HWB.out]
  clear q0 q1 q34
  have ho10 : wb.ownsRow B0 5 1 (.slice (some ⟨w1.heap.size, 0, none⟩) 1 1) (1 + 0) ((p.head ++ p.bits.take 0).map B) := by
    have hh : p.head = [0] := by unfold Pf.head; rw [HF.out]; rfl
    rw [hh]
    simpa using HOWN0.out
  have HO10 := Lib.hid ho10
  clear ho10
  go_wp2_with fail
  go_loopw [4, 6] (fun rv i wr => ∃ k : Nat, k ≤ 32 ∧ i = .int .i64 k ∧ wr.ownsRow B0 5 1 rv (1 + k) ((p.head ++ p.bits.take k).map B) ∧ Keeps [] wa wr ∧ B0 ≤ wr.heap.size) (fun _ i _ => 32 - (intOf i).toNat)
  case atStart => exact ⟨0, by omega, rfl, HO10.out, HKB.out, hsb⟩
  case round =>
    obtain ⟨k, hk, rfl, hown, hkr, hszr⟩ := hrel
    have hov := hown.lt
    obtain ⟨OL, hOL⟩ : ∃ OL, OL = (p.head ++ p.bits.take k).map B := ⟨_, rfl⟩
    rw [← hOL] at hown
    have HOL := Lib.hid hOL
    have HOWN := Lib.hid hown
    have HKR := Lib.hid hkr
    have hs1w := hkr.size
    clear hown hOL
    by_cases hlt : k < 32
    · obtain ⟨x, hx⟩ : ∃ x, p.bits[k]? = some x := ⟨p.bits[k]'(by rw [HB.out]; exact hlt), List.getElem?_eq_getElem _⟩
      have e1 : wr.cell? ⟨w.heap.size, 2 + k, none⟩ = some (.int .u8 x.toNat) := (HT2.out wr hkr).2 k (B x) (by rw [List.getElem?_map, hx]; rfl)
      have b0 : (0 : Int) ≤ (k : Int) := by omega
      have b1 : (k : Int) < 32 := by omega
      have hbx : BytesAt (wr.alloc (.cells #[.int .u8 x.toNat] 5 (0, 0))) (.slice (some ⟨wr.heap.size, 0, none⟩) 1 1) [x] := bytes_of_block (l := [x]) (heap_new_at rfl)
      have HX' := Lib.hid hx
      have HBX := Lib.hid hbx
      clear hx hbx hkr
      go_wp2_with (refine wpList_append_bytes rfl (.tmp 66) (.tmp 71) rfl B0 _ (1 + k) OL (by rfl) (HOWN.out.alloc _) _ [x] (by rfl) HBX.out (by simp; omega) (by simp; omega) ?_)
      intro vn wn hon hgn
      have hsn := hgn.size
      simp at hsn
      have HON := Lib.hid hon
      have HGN := Lib.hid hgn
      clear hon hgn
      go_wp2_with fail
      go_roundw
      case rel =>
        refine ⟨k + 1, by omega, by go_num, ?_, (HKR.out.alloc _).grown HGN.out (fun j hj => .inr (by have := (hov j hj).1; omega)), by omega⟩
        have h := HON.out
        rw [HOL.out, show ([B x] : List Value) = [x].map B from rfl, ← List.map_append] at h
        rw [List.append_assoc] at h
        rw [show p.bits.take (k + 1) = p.bits.take k ++ [x] from by rw [List.take_add_one, HX'.out]; rfl, show 1 + (k + 1) = 1 + k + 1 from by omega]
        exact h
      case measure => simp [intOf]; omega
    · have ek : k = 32 := by omega
      subst ek
      have etk : p.bits.take 32 = p.bits := List.take_of_length_le (by rw [HB.out]; exact Nat.le_refl _)
      rw [etk] at HOL
      clear etk
      simp only [show ((32 : Nat) : Int) = 32 from rfl]
      have ho14 : wr.ownsRow B0 5 1 u4 (1 + 32 + 32 * 0) ((p.head ++ p.bits ++ (p.sums.take 0).flatten).map B) := by
        have h := HOWN.out
        rw [HOL.out] at h
        simpa using h
      have HO14 := Lib.hid ho14
      have HK14 := Lib.hid hkr
      have hsz14 := hszr
      obtain ⟨wp, rfl⟩ : ∃ wp : World, wp = wr := ⟨_, rfl⟩
      clear hkr ho14
      go_wp2_with fail
      go_loopw [4, 7] (fun rv i wr => ∃ k : Nat, k ≤ p.sums.length ∧ i = .int .i64 k ∧ wr.ownsRow B0 5 1 rv (1 + 32 + 32 * k) ((p.head ++ p.bits ++ (p.sums.take k).flatten).map B) ∧ Keeps [] wa wr ∧ B0 ≤ wr.heap.size) (fun _ i _ => p.sums.length - (intOf i).toNat)
      case atStart => exact ⟨0, Nat.zero_le _, rfl, HO14.out, HK14.out, hsz14⟩
      case round =>
        obtain ⟨k, hk, rfl, hown, hkr, hsz18⟩ := hrel
        obtain ⟨⟨_, _, q34⟩, _⟩ := HT2.out wr hkr
        obtain ⟨OL, hOL⟩ : ∃ OL, OL = (p.head ++ p.bits ++ (p.sums.take k).flatten).map B := ⟨_, rfl⟩
        have HK18 := Lib.hid hkr
        by_cases hlt0 : k < p.sums.length
        · obtain ⟨g2, o2, rfl, hg2, hr2⟩ := HS.out.at (by omega)
          have hql := HD.out _ (List.getElem_mem hlt0)
          have hqr := SumsAt.row hr2 HD.out hlt0 rfl
          obtain ⟨q, hq⟩ : ∃ q, q = p.sums[k] := ⟨_, rfl⟩
          rw [← hq] at hql hqr
          have ho18 : wr.ownsRow B0 5 1 u4 (1 + 32 + 32 * k + 0) ((p.head ++ p.bits ++ (p.sums.take k).flatten ++ q.take 0).map B) := by
            rw [List.take_zero, List.append_nil]
            exact hown
          have HO18 := Lib.hid ho18
          have HQ := Lib.hid hq
          have HQL := Lib.hid hql
          have HQR := Lib.hid hqr
          have c1' : (k : Int) < (p.sums.length : Int) := by omega
          obtain ⟨wq, rfl⟩ : ∃ wq : World, wq = wr := ⟨_, rfl⟩
          clear hq hql hqr hr2 ho18 hown hkr hOL
          go_wp2_with fail
          go_loopw [4, 8] (fun rv i wr => ∃ j : Nat, j ≤ 32 ∧ i = .int .i64 j ∧ wr.ownsRow B0 5 1 rv (1 + 32 + 32 * k + j) ((p.head ++ p.bits ++ (p.sums.take k).flatten ++ q.take j).map B) ∧ Keeps [] wa wr ∧ B0 ≤ wr.heap.size) (fun _ i _ => 32 - (intOf i).toNat)
          case atStart => exact ⟨0, by omega, rfl, HO18.out, HK18.out, hsz18⟩
          case round =>
            obtain ⟨j, hk, rfl, hown, hkr, hszr⟩ := hrel
            have hov := hown.lt
            obtain ⟨OL, hOL⟩ : ∃ OL, OL = (p.head ++ p.bits ++ (p.sums.take k).flatten ++ q.take j).map B := ⟨_, rfl⟩
            rw [← hOL] at hown
            have HOL := Lib.hid hOL
            have HOWN := Lib.hid hown
            have HKR := Lib.hid hkr
            have hs1w := hkr.size
            clear hown hOL
            by_cases hlt : j < 32
            · obtain ⟨⟨_, _, q34⟩, _⟩ := HT2.out wr hkr
              obtain ⟨x, hx⟩ : ∃ x, q[j]? = some x := ⟨q[j]'(by rw [HQL.out]; exact hlt), List.getElem?_eq_getElem _⟩
              have e1 : wr.cell? ⟨g2, o2 + k * 32 + j, none⟩ = some (.int .u8 x.toNat) := rangeAt_of_heap (HQR.out) ((hka.trans (G := []) hkr (by simp)).block g2 hg2 (by simp)) j (B x) (by rw [List.getElem?_map, hx]; rfl)
              have b0 : (0 : Int) ≤ (j : Int) := by omega
              have b1 : (j : Int) < 32 := by omega
              have c0 : (0 : Int) ≤ (k : Int) := by omega
              have c1' : (k : Int) < (p.sums.length : Int) := by omega
              have hbx : BytesAt (wr.alloc (.cells #[.int .u8 x.toNat] 5 (0, 0))) (.slice (some ⟨wr.heap.size, 0, none⟩) 1 1) [x] := bytes_of_block (l := [x]) (heap_new_at rfl)
              have HX' := Lib.hid hx
              have HBX := Lib.hid hbx
              clear hx hbx hkr
              go_wp2_with (refine wpList_append_bytes rfl (.tmp 84) (.tmp 92) rfl B0 _ (1 + 32 + 32 * k + j) OL (by rfl) (HOWN.out.alloc _) _ [x] (by rfl) HBX.out (by simp; omega) (by simp; omega) ?_)
              intro vn wn hon hgn
              have hsn := hgn.size
              simp at hsn
              have HON := Lib.hid hon
              have HGN := Lib.hid hgn
              clear hon hgn
              go_wp2_with fail
              go_roundw
              case rel =>
                refine ⟨j + 1, by omega, by go_num, ?_, (HKR.out.alloc _).grown HGN.out (fun j hj => .inr (by have := (hov j hj).1; omega)), by omega⟩
                have h := HON.out
                rw [HOL.out, show ([B x] : List Value) = [x].map B from rfl, ← List.map_append] at h
                rw [List.append_assoc] at h
                rw [show q.take (j + 1) = q.take j ++ [x] from by rw [List.take_add_one, HX'.out]; rfl, show 1 + 32 + 32 * k + (j + 1) = 1 + 32 + 32 * k + j + 1 from by omega]
                exact h
              case measure => simp [intOf]; omega
            · have ek : j = 32 := by omega
              subst ek
              have etk : q.take 32 = q := List.take_of_length_le (by rw [HQL.out]; exact Nat.le_refl _)
              rw [etk] at HOL
              clear etk
              simp only [show ((32 : Nat) : Int) = 32 from rfl]
              clear hkr
              go_wp2_with fail
              go_roundw
              case rel =>
                refine ⟨k + 1, by omega, by go_num, ?_, HKR.out, hszr⟩
                have h := HOWN.out
                rw [HOL.out] at h
                rw [show (p.sums.take (k + 1)).flatten = (p.sums.take k).flatten ++ q from by rw [List.take_succ_eq_append_getElem hlt0, ← HQ.out]; simp, ← List.append_assoc, show 1 + 32 + 32 * (k + 1) = 1 + 32 + 32 * k + 32 from by omega]
                exact h
              case measure => simp [intOf]; omega
        · have ek : k = p.sums.length := by omega
          subst ek
          have HOW := Lib.hid hown
          clear hown hOL
          go_wp2_with fail
          go_ret2
          have h := HOW.out
          rw [List.take_length] at h
          have hl : p.enc.length = 1 + 32 + 32 * p.sums.length := by have := h.1; rw [List.length_map, Nat.mul_one] at this; exact this
          refine ⟨u4, rfl, ?_, hka.trans (G := []) HK18.out (by simp)⟩
          unfold OwnB
          rw [hl]
          exact ownsRow_base h
end Go.Proofs.Ytnobhfpjchofpaa
