/-
  Package proof: the walk of Encode: a proof laid out.
-/
import Derived.Test.YtnobhfpjchofpaaCf
import Derived.Test.YtnobhfpjchofpaaApp
namespace Go.Proofs.Ytnobhfpjchofpaa
set_option linter.unusedVariables false
set_option linter.unusedSimpArgs false
open Go.RowKit


theorem lit3 {n : Nat} (h : n ≤ 128) : (#[.int .u8 1, .int .u8 (n : Int), .int .u8 ((n : Int) / 256)] : Array Value) = (([1, UInt8.ofNat n, 0] : List UInt8).map B).toArray := by
  have e1 : (UInt8.ofNat n).toNat = n := by simp; omega
  have e2 : (n : Int) / 256 = 0 := by omega
  simp only [List.map_cons, List.map_nil, B, e1, e2]
  rfl
theorem run_store_digest {w : World} {q : Nat} {x : List UInt8} (h : w.heap[q]? = some (.cells (Array.replicate 32 (Value.int .u8 0)) 45 (0, 0))) (hl : x.length = 32) :
    (Instr.storeAt 45 (.pointer (some ⟨q, 0, none⟩)) (.agg (x.map B).toArray)).run Try.prog w = .ok () (w.setCells q 0 (x.map B)) := by
  have h2 : w.heap[q]? = some (.cells (List.replicate 32 (Value.int .u8 0)).toArray 45 (0, 0)) := by rw [h]; rfl
  have := run_storeAt_mid (P := Try.prog) w q 0 45 (x.map B).toArray (there_all h2 0 _ (by simp [hl])) (by rw [size_digest]; simp [hl]) (all_oneCell_toArray (B_one x))
  simpa using this
theorem store_digest {w : World} {q : Nat} {x : List UInt8} (h : w.heap[q]? = some (.cells (Array.replicate 32 (Value.int .u8 0)) 45 (0, 0))) (hl : x.length = 32) : (w.setCells q 0 (x.map B)).heap[q]? = some (.cells (x.map B).toArray 45 (0, 0)) := by
  have h2 : w.heap[q]? = some (.cells (List.replicate 32 (Value.int .u8 0)).toArray 45 (0, 0)) := by rw [h]; rfl
  exact store_all h2 (by simp [hl])
theorem bytes_of_block {w : World} {b : Nat} {l : List UInt8} {t : TypeId} (h : w.heap[b]? = some (.cells (l.map B).toArray t (0, 0))) (hl : l.length ≤ 1099511627776 := by simp) : BytesAt w (.slice (some ⟨b, 0, none⟩) l.length l.length) l :=
  .inr ⟨b, 0, l.length, rfl, Nat.le_refl _, by simp only [maxLen]; omega, lt_of_heap h, rangeAt_all h⟩


set_option maxRecDepth 100000 in
set_option maxHeartbeats 1600000 in
theorem encode_found {w : World} {v : Value} {p : Pf} (hp : PfIn w v p) (hw : p.well = true) (hf : p.found = true) :
    Calls Try.prog 10 #[v] w fun e w' => ∃ rv, e = .returned (.tuple #[rv, .int .i64 0]) ∧ OwnB w' rv p.enc ∧ (∀ k, rv.ownBlock = some k → w.heap.size ≤ k) ∧ Keeps [] w w' := by
  obtain ⟨vv, sv, rfl, hv, hs, hb, hd⟩ := hp
  obtain ⟨a1, c1, rfl, hc1, hm1⟩ := hv.form
  obtain ⟨a2, c2, rfl, hc2, hm2⟩ := hs.form
  unfold maxLen at hm1 hm2
  obtain ⟨C, hC⟩ : ∃ C, C = pfCells p (.slice a1 p.val.length c1) (.slice a2 p.sums.length c2) := ⟨_, rfl⟩
  rw [← hC]
  have hcl := fun (wx : World) (hx : wx.heap[w.heap.size]? = some (.cells C.toArray 30 (0, 0))) => And.intro (pf_cells (hC ▸ hx) hb) (pf_bits (hC ▸ hx) hb)
  obtain ⟨wa, hwa⟩ : ∃ wa, wa = w.alloc (.cells C.toArray 30 (0, 0)) := ⟨_, rfl⟩
  have hbx : wa.heap[w.heap.size]? = some (.cells C.toArray 30 (0, 0)) := by rw [hwa, heap_new_at rfl]
  have hka : Keeps [] w wa := by rw [hwa]; exact (Keeps.refl _ _).alloc _
  obtain ⟨fd, hfd⟩ : ∃ fd, fd = p.found := ⟨_, rfl⟩
  rw [← hfd] at hcl
  have y0 := lt_of_heap hbx
  have ht : ∀ wx, Keeps [] wa wx → (wx.cell? ⟨w.heap.size, 0, none⟩ = some (.bool fd) ∧ wx.cell? ⟨w.heap.size, 1, none⟩ = some (Value.slice a1 p.val.length c1) ∧ wx.cell? ⟨w.heap.size, 34, none⟩ = some (Value.slice a2 p.sums.length c2)) ∧ wx.rangeAt w.heap.size 2 (p.bits.map B) := fun wx hk => hcl wx ((hk.block _ y0 (by simp)).trans hbx)
  have HT := Lib.hid ht
  have HW := Lib.hid hwa
  have HFD := Lib.hid hfd
  have HS32 := Lib.hid (size_32_of hb)
  have HB := Lib.hid hb
  have HV := Lib.hid hv
  have HS := Lib.hid hs
  have HD := Lib.hid hd
  have hwell : p.well = ((fd || p.val.length == 0) && decide (p.val.length ≤ 128) && p.sums.length == onesOf p.bits) := by rw [hfd]; rfl
  rw [hw] at hwell
  have HX := Lib.hid hbx
  have hcO := fun (w : World) => ones_any (w := w) p.bits hb
  obtain ⟨m, hm⟩ : ∃ m, m = onesOf p.bits := ⟨_, rfl⟩
  rw [← hm] at hwell hcO
  have HCO := Lib.hid hcO
  have HM := Lib.hid hm
  have hbl := onesOf_le p.bits
  rw [hb, ← hm] at hbl
  clear hC hcl hv hs hb hd hfd hw hbx ht hwa hcO hm
  have hf2 : fd = true := HFD.out.trans hf
  subst hf2
  replace hwell := hwell.symm
  simp only [Bool.true_or, Bool.true_and, Bool.and_eq_true, decide_eq_true_eq, beq_iff_eq] at hwell
  obtain ⟨h1, h4⟩ := hwell
  obtain ⟨i0, hi0, hz0, hz1, hz2⟩ := info_parts info_u8
  have HI0 := Lib.hid hi0
  have HZ0 := Lib.hid hz0
  have HZ1 := Lib.hid hz1
  have HZ2 := Lib.hid hz2
  have g1 : decide ((128 : Int) < (p.val.length : Int)) = false := by simp; omega
  have g3 : ((m : Int) != (p.sums.length : Int)) = false := by rw [h4]; simp
  have H4 := Lib.hid h4
  have HF := Lib.hid hf
  have h4' : p.sums.length ≤ 256 := by omega
  clear h4 hf hi0 hz0 hz1 hz2
  go_enter Try.func10, Try.ntmps10
  go_wp2_with fail
  rw [← HW.out]
  refine wp_region_held_drew (S := (fun w' => ((w'.cell? ⟨w.heap.size, 0, none⟩ = some (.bool true) ∧ w'.cell? ⟨w.heap.size, 1, none⟩ = some (Value.slice a1 p.val.length c1) ∧ w'.cell? ⟨w.heap.size, 34, none⟩ = some (Value.slice a2 p.sums.length c2)) ∧ w'.rangeAt w.heap.size 2 (p.bits.map B)) ∧ Keeps [] wa w')) (by kernel_rfl) ?_ (fun hHeld => ?_)
  · exact ⟨HT.out _ (Keeps.refl _ _).drew, (Keeps.refl _ _).drew⟩
  refine' wpAnyH_take (i := 0) (v := _) rfl (by kernel_rfl) (by kernel_rfl) (by kernel_rfl) (fun _ _ _ h => h) (Or.inl ⟨by rfl, ?_⟩) (by assumption) ?_
  rotate_left 1
  · (intro w0 hSw; (try dsimp only at hSw); go_split_ands; go_simp; (try with_reducible rfl))
  try simp only [Act.put, List.setIfInBounds_toArray, List.set_cons_zero, List.set_cons_succ, List.getElem_toArray, List.getElem_cons_zero, List.getElem_cons_succ]
  refine' wpAnyH_take (i := 1) (v := _) rfl (by kernel_rfl) (by kernel_rfl) (by kernel_rfl) (fun _ _ _ h => h) (Or.inl ⟨by rfl, ?_⟩) (by assumption) ?_
  rotate_left 1
  · (intro w0 hSw; (try dsimp only at hSw); go_split_ands; go_simp; (try with_reducible rfl))
  try simp only [Act.put, List.setIfInBounds_toArray, List.set_cons_zero, List.set_cons_succ, List.getElem_toArray, List.getElem_cons_zero, List.getElem_cons_succ]
  refine' wpAnyH_take (i := 2) (v := _) rfl (by kernel_rfl) (by kernel_rfl) (by kernel_rfl) (fun _ _ _ h => h) (Or.inl ⟨by rfl, ?_⟩) (by assumption) ?_
  rotate_left 1
  · (intro w0 hSw; (try dsimp only at hSw); go_split_ands; go_simp; (try with_reducible rfl))
  try simp only [Act.put, List.setIfInBounds_toArray, List.set_cons_zero, List.set_cons_succ, List.getElem_toArray, List.getElem_cons_zero, List.getElem_cons_succ]
  refine' wpAnyH_take (i := 3) (v := _) rfl (by kernel_rfl) (by kernel_rfl) (by kernel_rfl) (fun _ _ _ h => h) (Or.inl ⟨by rfl, ?_⟩) (by assumption) ?_
  rotate_left 1
  · (intro w0 hSw; (try dsimp only at hSw); go_split_ands; go_simp; (try with_reducible rfl))
  try simp only [Act.put, List.setIfInBounds_toArray, List.set_cons_zero, List.set_cons_succ, List.getElem_toArray, List.getElem_cons_zero, List.getElem_cons_succ]
  refine' wpAnyH_take (i := 4) (v := _) rfl (by kernel_rfl) (by kernel_rfl) (by kernel_rfl) (fun _ _ _ h => h) (Or.inl ⟨by rfl, ?_⟩) (by assumption) ?_
  rotate_left 1
  · (intro w0 hSw; (try dsimp only at hSw); go_split_ands; go_simp; (try with_reducible rfl))
  try simp only [Act.put, List.setIfInBounds_toArray, List.set_cons_zero, List.set_cons_succ, List.getElem_toArray, List.getElem_cons_zero, List.getElem_cons_succ]
  refine' wpAnyH_take (i := 5) (v := _) rfl (by kernel_rfl) (by kernel_rfl) (by kernel_rfl) (fun _ _ _ h => h) (Or.inl ⟨by rfl, ?_⟩) (by assumption) ?_
  rotate_left 1
  · (intro w0 hSw; (try dsimp only at hSw); go_split_ands; go_simp; (try with_reducible rfl))
  try simp only [Act.put, List.setIfInBounds_toArray, List.set_cons_zero, List.set_cons_succ, List.getElem_toArray, List.getElem_cons_zero, List.getElem_cons_succ]
  refine' wpAnyH_take (i := 6) (v := _) rfl (by kernel_rfl) (by kernel_rfl) (by kernel_rfl) (fun _ _ _ h => h) (Or.inl ⟨by rfl, ?_⟩) (by assumption) ?_
  rotate_left 1
  · (intro w0 hSw; (try dsimp only at hSw); go_split_ands; go_simp; (try with_reducible rfl))
  try simp only [Act.put, List.setIfInBounds_toArray, List.set_cons_zero, List.set_cons_succ, List.getElem_toArray, List.getElem_cons_zero, List.getElem_cons_succ]
  refine' wpAnyH_take (i := 7) (v := _) rfl (by kernel_rfl) (by kernel_rfl) (by kernel_rfl) (fun _ _ _ h => h) (Or.inl ⟨by rfl, ?_⟩) (by assumption) ?_
  rotate_left 1
  · (intro w0 hSw; (try dsimp only at hSw); go_split_ands; go_simp; (try with_reducible rfl))
  try simp only [Act.put, List.setIfInBounds_toArray, List.set_cons_zero, List.set_cons_succ, List.getElem_toArray, List.getElem_cons_zero, List.getElem_cons_succ]
  refine' wpAnyH_take (i := 8) (v := _) rfl (by kernel_rfl) (by kernel_rfl) (by kernel_rfl) (fun _ _ _ h => h) (Or.inl ⟨by rfl, ?_⟩) (by assumption) ?_
  rotate_left 1
  · (intro w0 hSw; (try dsimp only at hSw); go_split_ands; go_simp; (try with_reducible rfl))
  try simp only [Act.put, List.setIfInBounds_toArray, List.set_cons_zero, List.set_cons_succ, List.getElem_toArray, List.getElem_cons_zero, List.getElem_cons_succ]
  refine' wpAnyH_take (i := 9) (v := undef) rfl (by kernel_rfl) (by kernel_rfl) (by kernel_rfl) (fun _ _ _ h => h) (Or.inr ⟨by rfl, rfl⟩) (by assumption) ?_
  try simp only [Act.put, List.setIfInBounds_toArray, List.set_cons_zero, List.set_cons_succ, List.getElem_toArray, List.getElem_cons_zero, List.getElem_cons_succ]
  refine' wpAnyH_take (i := 10) (v := undef) rfl (by kernel_rfl) (by kernel_rfl) (by kernel_rfl) (fun _ _ _ h => h) (Or.inr ⟨by rfl, rfl⟩) (by assumption) ?_
  try simp only [Act.put, List.setIfInBounds_toArray, List.set_cons_zero, List.set_cons_succ, List.getElem_toArray, List.getElem_cons_zero, List.getElem_cons_succ]
  refine' wpAnyH_take (i := 11) (v := undef) rfl (by kernel_rfl) (by kernel_rfl) (by kernel_rfl) (fun _ _ _ h => h) (Or.inr ⟨by rfl, rfl⟩) (by assumption) ?_
  try simp only [Act.put, List.setIfInBounds_toArray, List.set_cons_zero, List.set_cons_succ, List.getElem_toArray, List.getElem_cons_zero, List.getElem_cons_succ]
  refine' wpAnyH_take (i := 12) (v := undef) rfl (by kernel_rfl) (by kernel_rfl) (by kernel_rfl) (fun _ _ _ h => h) (Or.inr ⟨by rfl, rfl⟩) (by assumption) ?_
  try simp only [Act.put, List.setIfInBounds_toArray, List.set_cons_zero, List.set_cons_succ, List.getElem_toArray, List.getElem_cons_zero, List.getElem_cons_succ]
  refine' wpAnyH_take (i := 13) (v := _) rfl (by kernel_rfl) (by kernel_rfl) (by kernel_rfl) (fun _ _ _ h => h) (Or.inl ⟨by rfl, ?_⟩) (by assumption) ?_
  rotate_left 1
  · (intro w0 hSw; (try dsimp only at hSw); go_split_ands; go_simp; (try with_reducible rfl))
  try simp only [Act.put, List.setIfInBounds_toArray, List.set_cons_zero, List.set_cons_succ, List.getElem_toArray, List.getElem_cons_zero, List.getElem_cons_succ]
  refine' wpAnyH_take (i := 14) (v := _) rfl (by kernel_rfl) (by kernel_rfl) (by kernel_rfl) (fun _ _ _ h => h) (Or.inl ⟨by rfl, ?_⟩) (by assumption) ?_
  rotate_left 1
  · (intro w0 hSw; (try dsimp only at hSw); go_split_ands; go_simp; (try with_reducible rfl))
  try simp only [Act.put, List.setIfInBounds_toArray, List.set_cons_zero, List.set_cons_succ, List.getElem_toArray, List.getElem_cons_zero, List.getElem_cons_succ]
  refine' wpAnyH_take (i := 15) (v := _) rfl (by kernel_rfl) (by kernel_rfl) (by kernel_rfl) (fun _ _ _ h => h) (Or.inl ⟨by rfl, ?_⟩) (by assumption) ?_
  rotate_left 1
  · (intro w0 hSw; (try dsimp only at hSw); go_split_ands; go_simp; (try with_reducible rfl))
  try simp only [Act.put, List.setIfInBounds_toArray, List.set_cons_zero, List.set_cons_succ, List.getElem_toArray, List.getElem_cons_zero, List.getElem_cons_succ]
  refine' wpAnyH_take (i := 16) (v := _) rfl (by kernel_rfl) (by kernel_rfl) (by kernel_rfl) (fun _ _ _ h => h) (Or.inl ⟨by rfl, ?_⟩) (by assumption) ?_
  rotate_left 1
  · (intro w0 hSw; (try dsimp only at hSw); go_split_ands; go_simp; (try with_reducible rfl))
  try simp only [Act.put, List.setIfInBounds_toArray, List.set_cons_zero, List.set_cons_succ, List.getElem_toArray, List.getElem_cons_zero, List.getElem_cons_succ]
  refine' wpAnyH_take (i := 17) (v := _) rfl (by kernel_rfl) (by kernel_rfl) (by kernel_rfl) (fun _ _ _ h => h) (yieldsIf_load_mid (by rfl) 27 (.tmp 23) rfl w.heap.size 2 rfl (p.bits.map B) _ (fun _ h => h.1.2) Try.underlying27 rfl HS32.out) (by assumption) ?_
  try simp only [Act.put, List.setIfInBounds_toArray, List.set_cons_zero, List.set_cons_succ, List.getElem_toArray, List.getElem_cons_zero, List.getElem_cons_succ]
  refine' wpAnyH_take (i := 19) (v := _) rfl (by kernel_rfl) (by kernel_rfl) (by kernel_rfl) (fun _ _ _ h => h) (Or.inl ⟨by rfl, ?_⟩) (by assumption) ?_
  rotate_left 1
  · (intro w0 hSw; (try dsimp only at hSw); go_split_ands; go_simp; (try with_reducible rfl))
  try simp only [Act.put, List.setIfInBounds_toArray, List.set_cons_zero, List.set_cons_succ, List.getElem_toArray, List.getElem_cons_zero, List.getElem_cons_succ]
  refine' wpAnyH_take (i := 20) (v := _) rfl (by kernel_rfl) (by kernel_rfl) (by kernel_rfl) (fun _ _ _ h => h) (Or.inl ⟨by rfl, ?_⟩) (by assumption) ?_
  rotate_left 1
  · (intro w0 hSw; (try dsimp only at hSw); go_split_ands; go_simp; (try with_reducible rfl))
  try simp only [Act.put, List.setIfInBounds_toArray, List.set_cons_zero, List.set_cons_succ, List.getElem_toArray, List.getElem_cons_zero, List.getElem_cons_succ]
  refine' wpAnyH_take (i := 21) (v := _) rfl (by kernel_rfl) (by kernel_rfl) (by kernel_rfl) (fun _ _ _ h => h) (Or.inl ⟨by rfl, ?_⟩) (by assumption) ?_
  rotate_left 1
  · (intro w0 hSw; (try dsimp only at hSw); go_split_ands; go_simp; (try with_reducible rfl))
  try simp only [Act.put, List.setIfInBounds_toArray, List.set_cons_zero, List.set_cons_succ, List.getElem_toArray, List.getElem_cons_zero, List.getElem_cons_succ]
  refine wpAnyH_ready (rs := [18]) (by kernel_rfl) (by simp) ?_
  refine AllReadyH.cons rfl (fun K hK => ?_) AllReadyH.nil
  go_simp
  refine (HCO.out _).mono ?_
  rintro e w1 ⟨rfl, hk1⟩
  have hk1a : Keeps [] wa w1 := ((Keeps.refl _ _).drew).trans (G := []) hk1 (by simp)
  refine hK.out _ _ ?_ (fun hHeld => ?_)
  · exact ⟨HT.out _ hk1a, hk1a⟩
  clear hK K
  try simp only [Act.put, List.setIfInBounds_toArray, List.set_cons_zero, List.set_cons_succ, List.getElem_toArray, List.getElem_cons_zero, List.getElem_cons_succ]
  refine' wpAnyH_take (i := 22) (v := _) rfl (by kernel_rfl) (by kernel_rfl) (by kernel_rfl) (fun _ _ _ h => h) (Or.inl ⟨by rfl, ?_⟩) (by assumption) ?_
  rotate_left 1
  · (intro w0 hSw; (try dsimp only at hSw); go_split_ands; go_simp; (try with_reducible rfl))
  try simp only [Act.put, List.setIfInBounds_toArray, List.set_cons_zero, List.set_cons_succ, List.getElem_toArray, List.getElem_cons_zero, List.getElem_cons_succ]
  refine' wpAnyH_take (i := 23) (v := _) rfl (by kernel_rfl) (by kernel_rfl) (by kernel_rfl) (fun _ _ _ h => h) (Or.inl ⟨by rfl, ?_⟩) (by assumption) ?_
  rotate_left 1
  · (intro w0 hSw; (try dsimp only at hSw); go_split_ands; go_simp; (try with_reducible rfl))
  try simp only [Act.put, List.setIfInBounds_toArray, List.set_cons_zero, List.set_cons_succ, List.getElem_toArray, List.getElem_cons_zero, List.getElem_cons_succ]
  refine wpAnyH_done (by kernel_rfl) ?_ _
  have hs1a := hk1a.size
  obtain ⟨⟨q0, q1, q34⟩, _⟩ := HT.out w1 hk1a
  go_wp2_with (refine wpList_make_own _ rfl _ _ 26 rfl w1.heap.size 5 i0 (.int .u8 0) 1 Try.underlying26 HI0.out HZ0.out HZ1.out _ _ _ (3 + p.val.length + 32 + 32 * p.sums.length) rfl rfl (by omega) (by rw [HZ2.out]; omega) (by simp only [maxLen]; omega) (Nat.le_refl _) ?_)
  intro wm hown hgm
  have hkm : Keeps [] wa wm := hk1a.grown hgm (by simp)
  have hgs := hgm.size
  have HGM := Lib.hid hgm
  have HOW := Lib.hid hown
  clear q0 q1 q34 hgm hown
  obtain ⟨⟨q0, q1, q34⟩, _⟩ := HT.out wm hkm
  
  have hb5 : BytesAt (wm.alloc (.cells #[.int .u8 1, .int .u8 (p.val.length : Int), .int .u8 ((p.val.length : Int) / 256)] 5 (0, 0))) (.slice (some ⟨wm.heap.size, 0, none⟩) 3 3) [1, UInt8.ofNat p.val.length, 0] := by
    rw [lit3 h1]
    exact bytes_of_block (l := [1, UInt8.ofNat p.val.length, 0]) (heap_new_at rfl)
  have HB5 := Lib.hid hb5
  clear hb5
  go_wp2_with (refine wpList_append_bytes rfl (.tmp 44) (.tmp 54) rfl w1.heap.size _ 0 [] (by rfl) (HOW.out.alloc _) _ [1, UInt8.ofNat p.val.length, 0] (by rfl) HB5.out (by simp) (by simp; omega) ?_)
  intro v5 w5 ho5 hg5
  have hk5 : Keeps [] wa w5 := (hkm.alloc _).grown hg5 (fun j hj => .inr (by have := (HOW.out.lt j hj).1; omega))
  have hs5 := hg5.size
  simp at hs5
  have HO5 := Lib.hid ho5
  clear q0 q1 q34 ho5 hg5
  obtain ⟨⟨q0, q1, q34⟩, _⟩ := HT.out w5 hk5
  have HV5 := Lib.hid (HV.out.keeps (hka.trans (G := []) hk5 (by simp)) (by simp))
  go_wp2_with (refine wpList_append_bytes rfl (.tmp 56) (.tmp 58) rfl w1.heap.size _ 3 _ (by rfl) HO5.out _ p.val (by rfl) HV5.out (by omega) (by omega) ?_)
  intro v6 w6 ho6 hg6
  have hk6 : Keeps [] wa w6 := hk5.grown hg6 (fun j hj => .inr (by have := (HO5.out.lt j hj).1; omega))
  have hs6 := hg6.size
  have ho6b : w6.ownsRow w1.heap.size 5 1 v6 (3 + p.val.length) (p.head.map B) := by
    have e : p.head = [1, UInt8.ofNat p.val.length, 0] ++ p.val := by unfold Pf.head; rw [HF.out]; rfl
    rw [e, List.map_append]
    exact ho6
  have HO6 := Lib.hid ho6b
  clear q0 q1 q34 ho6 hg6 ho6b
  obtain ⟨⟨q0, q1, q34⟩, r6⟩ := HT.out w6 hk6
  have hb8 : BytesAt w6 (.slice (some ⟨w.heap.size, 2, none⟩) 32 32) p.bits := .inr ⟨w.heap.size, 2, 32, by rw [HB.out], by rw [HB.out]; exact Nat.le_refl _, by simp [maxLen], by have := hk6.size; omega, r6⟩
  have HB8 := Lib.hid hb8
  clear r6 hb8
  go_wp2_with (refine wpList_append_bytes rfl (.tmp 63) (.tmp 65) rfl w1.heap.size _ (3 + p.val.length) _ (by rfl) HO6.out _ p.bits (by rfl) HB8.out (by have := HB.out; omega) (by omega) ?_)
  intro v8 w8 ho8 hg8
  have hk8 : Keeps [] wa w8 := hk6.grown hg8 (fun j hj => .inr (by have := (HO6.out.lt j hj).1; omega))
  have hs8 := hg8.size
  have ho8b : w8.ownsRow w1.heap.size 5 1 v8 ((3 + p.val.length) + p.bits.length) ((p.head ++ p.bits).map B) := by rw [List.map_append]; exact ho8
  have HO8 := Lib.hid ho8b
  clear q0 q1 q34 ho8 hg8 ho8b
  obtain ⟨⟨q0, q1, q34⟩, _⟩ := HT.out w8 hk8
  have hbl8 := HB.out
  have hkw8 := hka.trans (G := []) hk8 (by simp)
  have HKW8 := Lib.hid hkw8
  have HK8 := Lib.hid hk8
  have HBL8 := Lib.hid hbl8
  clear hkw8 hbl8 hk8
  go_wp2_with fail
  go_loopw [4, 70] (fun rv i wr => ∃ k : Nat, k ≤ p.sums.length ∧ i = .int .i64 k ∧ wr.ownsRow w1.heap.size 5 1 rv ((3 + p.val.length) + 32 + 32 * k) ((p.head ++ p.bits ++ (p.sums.take k).flatten).map B) ∧ Keeps [] wa wr ∧ w1.heap.size ≤ wr.heap.size) (fun _ i _ => p.sums.length - (intOf i).toNat)
  case atStart => exact ⟨0, Nat.zero_le _, rfl, by have h := HO8.out; rw [HBL8.out] at h; simpa using h, HK8.out, by omega⟩
  case round =>
    obtain ⟨k, hk, rfl, hown, hkr, hkr2⟩ := hrel
    have hsr := hkr.size
    have hov := hown.lt
    have HOWN := Lib.hid hown
    have hszr : w1.heap.size ≤ wr.heap.size := hkr2
    clear hown q0 q1 q34
    by_cases hlt : k < p.sums.length
    · obtain ⟨g2, o2, rfl, hg2, hr2⟩ := HS.out.at (by omega)
      have hl := HD.out _ (List.getElem_mem hlt)
      have q2 := SumsAt.row hr2 HD.out hlt ((hka.trans (G := []) hkr (by simp)).block g2 hg2 (by simp))
      obtain ⟨x, hx⟩ : ∃ x, x = p.sums[k] := ⟨_, rfl⟩
      rw [← hx] at q2 hl
      have HSD := Lib.hid (size_digest_of hl)
      have HXX := Lib.hid hx
      have HLX := Lib.hid hl
      have Q2 := Lib.hid q2
      have b0 : (0 : Int) ≤ (k : Int) := by omega
      have b1 : (k : Int) < (p.sums.length : Int) := by omega
      clear q2 hr2 hx hl
      have hown2 : ((wr.alloc (.cells (Array.replicate 32 (Value.int .u8 0)) 45 (0, 0))).setCells wr.heap.size 0 (x.map B)).ownsRow w1.heap.size 5 1 u4 ((3 + p.val.length) + 32 + 32 * k) ((p.head ++ p.bits ++ (p.sums.take k).flatten).map B) := ownsRow_keep HOWN.out (fun j hj => by
        have := (hov j hj).2
        rw [heap_setCells_other _ _ _ (by omega), heap_old_at this])
      have hbx : BytesAt ((wr.alloc (.cells (Array.replicate 32 (Value.int .u8 0)) 45 (0, 0))).setCells wr.heap.size 0 (x.map B)) (.slice (some ⟨wr.heap.size, 0, none⟩) 32 32) x := by
        have h := bytes_of_block (store_digest (heap_new_at rfl) HLX.out : ((wr.alloc (.cells (Array.replicate 32 (Value.int .u8 0)) 45 (0, 0))).setCells wr.heap.size 0 (x.map B)).heap[wr.heap.size]? = _) (by rw [HLX.out]; omega)
        rw [HLX.out] at h
        exact h
      have hk2 : Keeps [] wa ((wr.alloc (.cells (Array.replicate 32 (Value.int .u8 0)) 45 (0, 0))).setCells wr.heap.size 0 (x.map B)) := (hkr.alloc _).setCells (.inr hsr) 0 _
      have hsx : ((wr.alloc (.cells (Array.replicate 32 (Value.int .u8 0)) 45 (0, 0))).setCells wr.heap.size 0 (x.map B)).heap.size = wr.heap.size + 1 := by rw [size_setCells]; simp
      obtain ⟨PL, hPL⟩ : ∃ PL, PL = (p.head ++ p.bits ++ (p.sums.take k).flatten).map B := ⟨_, rfl⟩
      rw [← hPL] at hown2
      have HPL := Lib.hid hPL
      have HO2 := Lib.hid hown2
      have HBX := Lib.hid hbx
      have HK2 := Lib.hid hk2
      have HSX := Lib.hid hsx
      clear hown2 hbx hk2 hsx hPL
      go_wp2_with (first | (refine wpList_append_bytes rfl (.tmp 74) (.tmp 75) rfl w1.heap.size _ ((3 + p.val.length) + 32 + 32 * k) _ (by rfl) HO2.out _ x (by rfl) HBX.out (by rw [HLX.out]; omega) (by rw [HSX.out]; omega) ?_) | (refine wpList_load_mid rfl 45 (.tmp 72) rfl g2 (o2 + k * 32) (by rfl) (x.map B) _ Q2.out Try.underlying45 rfl HSD.out ?_) | (refine wl_alloc rfl 45 rfl ?_; refine ⟨_, _, run_alloc _ info_digest, ?_⟩; try simp only [Act.put, List.setIfInBounds_toArray, List.set_cons_zero, List.set_cons_succ, List.getElem_toArray, List.getElem_cons_zero, List.getElem_cons_succ]) | (refine wl_store rfl 45 (.tmp 6) (.tmp 73) rfl ?_; refine ⟨_, run_store_digest (heap_new_at rfl) HLX.out, ?_⟩; try simp only [Act.put, List.setIfInBounds_toArray, List.set_cons_zero, List.set_cons_succ, List.getElem_toArray, List.getElem_cons_zero, List.getElem_cons_succ]))
      intro vn wn hon hgn
      have HON := Lib.hid hon
      have HGN := Lib.hid hgn
      clear hon hgn
      go_wp2_with fail
      go_roundw
      case rel =>
        have h1 := HON.out
        rw [HPL.out, ← List.map_append, HLX.out] at h1
        have e : p.head ++ p.bits ++ (p.sums.take (k + 1)).flatten = p.head ++ p.bits ++ (p.sums.take k).flatten ++ x := by
          rw [List.take_succ_eq_append_getElem hlt, ← HXX.out, List.flatten_append, List.append_assoc, List.append_assoc, List.append_assoc]
          simp
        refine ⟨k + 1, by omega, by go_num, ?_, HK2.out.grown HGN.out (fun j hj => .inr (by have := (hov j hj).1; omega)), by have := HGN.out.size; rw [HSX.out] at this; omega⟩
        rw [e, show (3 + p.val.length) + 32 + 32 * (k + 1) = (3 + p.val.length) + 32 + 32 * k + 32 from by omega]
        exact h1
      case measure => simp [intOf]; omega
    · have e : k = p.sums.length := by omega
      subst e
      go_wp2_with fail
      go_ret2
      have h := HOWN.out
      rw [List.take_length] at h
      have hl : p.enc.length = (3 + p.val.length) + 32 + 32 * p.sums.length := by have := h.1; rw [List.length_map, Nat.mul_one] at this; exact this
      refine ⟨u4, rfl, ?_, fun j hj => by have := (hov j hj).1; have := hka.size; omega, hka.trans (G := []) hkr (by simp)⟩
      unfold OwnB
      rw [hl]
      exact ownsRow_base h
set_option maxRecDepth 100000 in
set_option maxHeartbeats 1600000 in
theorem encode_absent {w : World} {v : Value} {p : Pf} (hp : PfIn w v p) (hw : p.well = true) (hf : p.found = false) :
    Calls Try.prog 10 #[v] w fun e w' => ∃ rv, e = .returned (.tuple #[rv, .int .i64 0]) ∧ OwnB w' rv p.enc ∧ (∀ k, rv.ownBlock = some k → w.heap.size ≤ k) ∧ Keeps [] w w' := by
  obtain ⟨vv, sv, rfl, hv, hs, hb, hd⟩ := hp
  obtain ⟨a1, c1, rfl, hc1, hm1⟩ := hv.form
  obtain ⟨a2, c2, rfl, hc2, hm2⟩ := hs.form
  unfold maxLen at hm1 hm2
  obtain ⟨C, hC⟩ : ∃ C, C = pfCells p (.slice a1 p.val.length c1) (.slice a2 p.sums.length c2) := ⟨_, rfl⟩
  rw [← hC]
  have hcl := fun (wx : World) (hx : wx.heap[w.heap.size]? = some (.cells C.toArray 30 (0, 0))) => And.intro (pf_cells (hC ▸ hx) hb) (pf_bits (hC ▸ hx) hb)
  obtain ⟨wa, hwa⟩ : ∃ wa, wa = w.alloc (.cells C.toArray 30 (0, 0)) := ⟨_, rfl⟩
  have hbx : wa.heap[w.heap.size]? = some (.cells C.toArray 30 (0, 0)) := by rw [hwa, heap_new_at rfl]
  have hka : Keeps [] w wa := by rw [hwa]; exact (Keeps.refl _ _).alloc _
  obtain ⟨fd, hfd⟩ : ∃ fd, fd = p.found := ⟨_, rfl⟩
  rw [← hfd] at hcl
  have y0 := lt_of_heap hbx
  have ht : ∀ wx, Keeps [] wa wx → (wx.cell? ⟨w.heap.size, 0, none⟩ = some (.bool fd) ∧ wx.cell? ⟨w.heap.size, 1, none⟩ = some (Value.slice a1 p.val.length c1) ∧ wx.cell? ⟨w.heap.size, 34, none⟩ = some (Value.slice a2 p.sums.length c2)) ∧ wx.rangeAt w.heap.size 2 (p.bits.map B) := fun wx hk => hcl wx ((hk.block _ y0 (by simp)).trans hbx)
  have HT := Lib.hid ht
  have HW := Lib.hid hwa
  have HFD := Lib.hid hfd
  have HS32 := Lib.hid (size_32_of hb)
  have HB := Lib.hid hb
  have HV := Lib.hid hv
  have HS := Lib.hid hs
  have HD := Lib.hid hd
  have hwell : p.well = ((fd || p.val.length == 0) && decide (p.val.length ≤ 128) && p.sums.length == onesOf p.bits) := by rw [hfd]; rfl
  rw [hw] at hwell
  have HX := Lib.hid hbx
  have hcO := fun (w : World) => ones_any (w := w) p.bits hb
  obtain ⟨m, hm⟩ : ∃ m, m = onesOf p.bits := ⟨_, rfl⟩
  rw [← hm] at hwell hcO
  have HCO := Lib.hid hcO
  have HM := Lib.hid hm
  have hbl := onesOf_le p.bits
  rw [hb, ← hm] at hbl
  clear hC hcl hv hs hb hd hfd hw hbx ht hwa hcO hm
  have hf2 : fd = false := HFD.out.trans hf
  subst hf2
  replace hwell := hwell.symm
  simp only [Bool.false_or, Bool.true_and, Bool.and_eq_true, decide_eq_true_eq, beq_iff_eq] at hwell
  obtain ⟨⟨h3, h1⟩, h4⟩ := hwell
  have ht2 := HT.out
  rw [h3] at ht2
  have HT2 := Lib.hid ht2
  obtain ⟨i0, hi0, hz0, hz1, hz2⟩ := info_parts info_u8
  have HI0 := Lib.hid hi0
  have HZ0 := Lib.hid hz0
  have HZ1 := Lib.hid hz1
  have HZ2 := Lib.hid hz2
  have g1 : decide ((128 : Int) < (p.val.length : Int)) = false := by simp; omega
  have g3 : ((m : Int) != (p.sums.length : Int)) = false := by rw [h4]; simp
  have H4 := Lib.hid h4
  have HF := Lib.hid hf
  have h4' : p.sums.length ≤ 256 := by omega
  have H3 := Lib.hid h3
  clear h4 hf hi0 hz0 hz1 hz2 ht2 h3
  go_enter Try.func10, Try.ntmps10
  go_wp2_with fail
  rw [← HW.out]
  refine wp_region_held_drew (S := (fun w' => ((w'.cell? ⟨w.heap.size, 0, none⟩ = some (.bool false) ∧ w'.cell? ⟨w.heap.size, 1, none⟩ = some (Value.slice a1 0 c1) ∧ w'.cell? ⟨w.heap.size, 34, none⟩ = some (Value.slice a2 p.sums.length c2)) ∧ w'.rangeAt w.heap.size 2 (p.bits.map B)) ∧ Keeps [] wa w')) (by kernel_rfl) ?_ (fun hHeld => ?_)
  · exact ⟨HT2.out _ (Keeps.refl _ _).drew, (Keeps.refl _ _).drew⟩
  refine' wpAnyH_take (i := 0) (v := _) rfl (by kernel_rfl) (by kernel_rfl) (by kernel_rfl) (fun _ _ _ h => h) (Or.inl ⟨by rfl, ?_⟩) (by assumption) ?_
  rotate_left 1
  · (intro w0 hSw; (try dsimp only at hSw); go_split_ands; go_simp; (try with_reducible rfl))
  try simp only [Act.put, List.setIfInBounds_toArray, List.set_cons_zero, List.set_cons_succ, List.getElem_toArray, List.getElem_cons_zero, List.getElem_cons_succ]
  refine' wpAnyH_take (i := 1) (v := _) rfl (by kernel_rfl) (by kernel_rfl) (by kernel_rfl) (fun _ _ _ h => h) (Or.inl ⟨by rfl, ?_⟩) (by assumption) ?_
  rotate_left 1
  · (intro w0 hSw; (try dsimp only at hSw); go_split_ands; go_simp; (try with_reducible rfl))
  try simp only [Act.put, List.setIfInBounds_toArray, List.set_cons_zero, List.set_cons_succ, List.getElem_toArray, List.getElem_cons_zero, List.getElem_cons_succ]
  refine' wpAnyH_take (i := 2) (v := _) rfl (by kernel_rfl) (by kernel_rfl) (by kernel_rfl) (fun _ _ _ h => h) (Or.inl ⟨by rfl, ?_⟩) (by assumption) ?_
  rotate_left 1
  · (intro w0 hSw; (try dsimp only at hSw); go_split_ands; go_simp; (try with_reducible rfl))
  try simp only [Act.put, List.setIfInBounds_toArray, List.set_cons_zero, List.set_cons_succ, List.getElem_toArray, List.getElem_cons_zero, List.getElem_cons_succ]
  refine' wpAnyH_take (i := 3) (v := _) rfl (by kernel_rfl) (by kernel_rfl) (by kernel_rfl) (fun _ _ _ h => h) (Or.inl ⟨by rfl, ?_⟩) (by assumption) ?_
  rotate_left 1
  · (intro w0 hSw; (try dsimp only at hSw); go_split_ands; go_simp; (try with_reducible rfl))
  try simp only [Act.put, List.setIfInBounds_toArray, List.set_cons_zero, List.set_cons_succ, List.getElem_toArray, List.getElem_cons_zero, List.getElem_cons_succ]
  refine' wpAnyH_take (i := 4) (v := _) rfl (by kernel_rfl) (by kernel_rfl) (by kernel_rfl) (fun _ _ _ h => h) (Or.inl ⟨by rfl, ?_⟩) (by assumption) ?_
  rotate_left 1
  · (intro w0 hSw; (try dsimp only at hSw); go_split_ands; go_simp; (try with_reducible rfl))
  try simp only [Act.put, List.setIfInBounds_toArray, List.set_cons_zero, List.set_cons_succ, List.getElem_toArray, List.getElem_cons_zero, List.getElem_cons_succ]
  refine' wpAnyH_take (i := 5) (v := _) rfl (by kernel_rfl) (by kernel_rfl) (by kernel_rfl) (fun _ _ _ h => h) (Or.inl ⟨by rfl, ?_⟩) (by assumption) ?_
  rotate_left 1
  · (intro w0 hSw; (try dsimp only at hSw); go_split_ands; go_simp; (try with_reducible rfl))
  try simp only [Act.put, List.setIfInBounds_toArray, List.set_cons_zero, List.set_cons_succ, List.getElem_toArray, List.getElem_cons_zero, List.getElem_cons_succ]
  refine' wpAnyH_take (i := 6) (v := _) rfl (by kernel_rfl) (by kernel_rfl) (by kernel_rfl) (fun _ _ _ h => h) (Or.inl ⟨by rfl, ?_⟩) (by assumption) ?_
  rotate_left 1
  · (intro w0 hSw; (try dsimp only at hSw); go_split_ands; go_simp; (try with_reducible rfl))
  try simp only [Act.put, List.setIfInBounds_toArray, List.set_cons_zero, List.set_cons_succ, List.getElem_toArray, List.getElem_cons_zero, List.getElem_cons_succ]
  refine' wpAnyH_take (i := 7) (v := _) rfl (by kernel_rfl) (by kernel_rfl) (by kernel_rfl) (fun _ _ _ h => h) (Or.inl ⟨by rfl, ?_⟩) (by assumption) ?_
  rotate_left 1
  · (intro w0 hSw; (try dsimp only at hSw); go_split_ands; go_simp; (try with_reducible rfl))
  try simp only [Act.put, List.setIfInBounds_toArray, List.set_cons_zero, List.set_cons_succ, List.getElem_toArray, List.getElem_cons_zero, List.getElem_cons_succ]
  refine' wpAnyH_take (i := 8) (v := _) rfl (by kernel_rfl) (by kernel_rfl) (by kernel_rfl) (fun _ _ _ h => h) (Or.inl ⟨by rfl, ?_⟩) (by assumption) ?_
  rotate_left 1
  · (intro w0 hSw; (try dsimp only at hSw); go_split_ands; go_simp; (try with_reducible rfl))
  try simp only [Act.put, List.setIfInBounds_toArray, List.set_cons_zero, List.set_cons_succ, List.getElem_toArray, List.getElem_cons_zero, List.getElem_cons_succ]
  refine' wpAnyH_take (i := 9) (v := _) rfl (by kernel_rfl) (by kernel_rfl) (by kernel_rfl) (fun _ _ _ h => h) (Or.inl ⟨by rfl, ?_⟩) (by assumption) ?_
  rotate_left 1
  · (intro w0 hSw; (try dsimp only at hSw); go_split_ands; go_simp; (try with_reducible rfl))
  try simp only [Act.put, List.setIfInBounds_toArray, List.set_cons_zero, List.set_cons_succ, List.getElem_toArray, List.getElem_cons_zero, List.getElem_cons_succ]
  refine' wpAnyH_take (i := 10) (v := _) rfl (by kernel_rfl) (by kernel_rfl) (by kernel_rfl) (fun _ _ _ h => h) (Or.inl ⟨by rfl, ?_⟩) (by assumption) ?_
  rotate_left 1
  · (intro w0 hSw; (try dsimp only at hSw); go_split_ands; go_simp; (try with_reducible rfl))
  try simp only [Act.put, List.setIfInBounds_toArray, List.set_cons_zero, List.set_cons_succ, List.getElem_toArray, List.getElem_cons_zero, List.getElem_cons_succ]
  refine' wpAnyH_take (i := 11) (v := _) rfl (by kernel_rfl) (by kernel_rfl) (by kernel_rfl) (fun _ _ _ h => h) (Or.inl ⟨by rfl, ?_⟩) (by assumption) ?_
  rotate_left 1
  · (intro w0 hSw; (try dsimp only at hSw); go_split_ands; go_simp; (try with_reducible rfl))
  try simp only [Act.put, List.setIfInBounds_toArray, List.set_cons_zero, List.set_cons_succ, List.getElem_toArray, List.getElem_cons_zero, List.getElem_cons_succ]
  refine' wpAnyH_take (i := 12) (v := _) rfl (by kernel_rfl) (by kernel_rfl) (by kernel_rfl) (fun _ _ _ h => h) (Or.inl ⟨by rfl, ?_⟩) (by assumption) ?_
  rotate_left 1
  · (intro w0 hSw; (try dsimp only at hSw); go_split_ands; go_simp; (try with_reducible rfl))
  try simp only [Act.put, List.setIfInBounds_toArray, List.set_cons_zero, List.set_cons_succ, List.getElem_toArray, List.getElem_cons_zero, List.getElem_cons_succ]
  refine' wpAnyH_take (i := 13) (v := _) rfl (by kernel_rfl) (by kernel_rfl) (by kernel_rfl) (fun _ _ _ h => h) (Or.inl ⟨by rfl, ?_⟩) (by assumption) ?_
  rotate_left 1
  · (intro w0 hSw; (try dsimp only at hSw); go_split_ands; go_simp; (try with_reducible rfl))
  try simp only [Act.put, List.setIfInBounds_toArray, List.set_cons_zero, List.set_cons_succ, List.getElem_toArray, List.getElem_cons_zero, List.getElem_cons_succ]
  refine' wpAnyH_take (i := 14) (v := _) rfl (by kernel_rfl) (by kernel_rfl) (by kernel_rfl) (fun _ _ _ h => h) (Or.inl ⟨by rfl, ?_⟩) (by assumption) ?_
  rotate_left 1
  · (intro w0 hSw; (try dsimp only at hSw); go_split_ands; go_simp; (try with_reducible rfl))
  try simp only [Act.put, List.setIfInBounds_toArray, List.set_cons_zero, List.set_cons_succ, List.getElem_toArray, List.getElem_cons_zero, List.getElem_cons_succ]
  refine' wpAnyH_take (i := 15) (v := _) rfl (by kernel_rfl) (by kernel_rfl) (by kernel_rfl) (fun _ _ _ h => h) (Or.inl ⟨by rfl, ?_⟩) (by assumption) ?_
  rotate_left 1
  · (intro w0 hSw; (try dsimp only at hSw); go_split_ands; go_simp; (try with_reducible rfl))
  try simp only [Act.put, List.setIfInBounds_toArray, List.set_cons_zero, List.set_cons_succ, List.getElem_toArray, List.getElem_cons_zero, List.getElem_cons_succ]
  refine' wpAnyH_take (i := 16) (v := _) rfl (by kernel_rfl) (by kernel_rfl) (by kernel_rfl) (fun _ _ _ h => h) (Or.inl ⟨by rfl, ?_⟩) (by assumption) ?_
  rotate_left 1
  · (intro w0 hSw; (try dsimp only at hSw); go_split_ands; go_simp; (try with_reducible rfl))
  try simp only [Act.put, List.setIfInBounds_toArray, List.set_cons_zero, List.set_cons_succ, List.getElem_toArray, List.getElem_cons_zero, List.getElem_cons_succ]
  refine' wpAnyH_take (i := 17) (v := _) rfl (by kernel_rfl) (by kernel_rfl) (by kernel_rfl) (fun _ _ _ h => h) (yieldsIf_load_mid (by rfl) 27 (.tmp 23) rfl w.heap.size 2 rfl (p.bits.map B) _ (fun _ h => h.1.2) Try.underlying27 rfl HS32.out) (by assumption) ?_
  try simp only [Act.put, List.setIfInBounds_toArray, List.set_cons_zero, List.set_cons_succ, List.getElem_toArray, List.getElem_cons_zero, List.getElem_cons_succ]
  refine' wpAnyH_take (i := 19) (v := _) rfl (by kernel_rfl) (by kernel_rfl) (by kernel_rfl) (fun _ _ _ h => h) (Or.inl ⟨by rfl, ?_⟩) (by assumption) ?_
  rotate_left 1
  · (intro w0 hSw; (try dsimp only at hSw); go_split_ands; go_simp; (try with_reducible rfl))
  try simp only [Act.put, List.setIfInBounds_toArray, List.set_cons_zero, List.set_cons_succ, List.getElem_toArray, List.getElem_cons_zero, List.getElem_cons_succ]
  refine' wpAnyH_take (i := 20) (v := _) rfl (by kernel_rfl) (by kernel_rfl) (by kernel_rfl) (fun _ _ _ h => h) (Or.inl ⟨by rfl, ?_⟩) (by assumption) ?_
  rotate_left 1
  · (intro w0 hSw; (try dsimp only at hSw); go_split_ands; go_simp; (try with_reducible rfl))
  try simp only [Act.put, List.setIfInBounds_toArray, List.set_cons_zero, List.set_cons_succ, List.getElem_toArray, List.getElem_cons_zero, List.getElem_cons_succ]
  refine' wpAnyH_take (i := 21) (v := _) rfl (by kernel_rfl) (by kernel_rfl) (by kernel_rfl) (fun _ _ _ h => h) (Or.inl ⟨by rfl, ?_⟩) (by assumption) ?_
  rotate_left 1
  · (intro w0 hSw; (try dsimp only at hSw); go_split_ands; go_simp; (try with_reducible rfl))
  try simp only [Act.put, List.setIfInBounds_toArray, List.set_cons_zero, List.set_cons_succ, List.getElem_toArray, List.getElem_cons_zero, List.getElem_cons_succ]
  refine wpAnyH_ready (rs := [18]) (by kernel_rfl) (by simp) ?_
  refine AllReadyH.cons rfl (fun K hK => ?_) AllReadyH.nil
  go_simp
  refine (HCO.out _).mono ?_
  rintro e w1 ⟨rfl, hk1⟩
  have hk1a : Keeps [] wa w1 := ((Keeps.refl _ _).drew).trans (G := []) hk1 (by simp)
  refine hK.out _ _ ?_ (fun hHeld => ?_)
  · exact ⟨HT2.out _ hk1a, hk1a⟩
  clear hK K
  try simp only [Act.put, List.setIfInBounds_toArray, List.set_cons_zero, List.set_cons_succ, List.getElem_toArray, List.getElem_cons_zero, List.getElem_cons_succ]
  refine' wpAnyH_take (i := 22) (v := _) rfl (by kernel_rfl) (by kernel_rfl) (by kernel_rfl) (fun _ _ _ h => h) (Or.inl ⟨by rfl, ?_⟩) (by assumption) ?_
  rotate_left 1
  · (intro w0 hSw; (try dsimp only at hSw); go_split_ands; go_simp; (try with_reducible rfl))
  try simp only [Act.put, List.setIfInBounds_toArray, List.set_cons_zero, List.set_cons_succ, List.getElem_toArray, List.getElem_cons_zero, List.getElem_cons_succ]
  refine' wpAnyH_take (i := 23) (v := _) rfl (by kernel_rfl) (by kernel_rfl) (by kernel_rfl) (fun _ _ _ h => h) (Or.inl ⟨by rfl, ?_⟩) (by assumption) ?_
  rotate_left 1
  · (intro w0 hSw; (try dsimp only at hSw); go_split_ands; go_simp; (try with_reducible rfl))
  try simp only [Act.put, List.setIfInBounds_toArray, List.set_cons_zero, List.set_cons_succ, List.getElem_toArray, List.getElem_cons_zero, List.getElem_cons_succ]
  refine wpAnyH_done (by kernel_rfl) ?_ _
  have hs1a := hk1a.size
  obtain ⟨⟨q0, q1, q34⟩, _⟩ := HT2.out w1 hk1a
  go_wp2_with (refine wpList_make_own _ rfl _ _ 26 rfl w1.heap.size 5 i0 (.int .u8 0) 1 Try.underlying26 HI0.out HZ0.out HZ1.out _ _ _ (3 + 0 + 32 + 32 * p.sums.length) rfl rfl (by omega) (by rw [HZ2.out]; omega) (by simp only [maxLen]; omega) (Nat.le_refl _) ?_)
  intro wm hown hgm
  have hkm : Keeps [] wa wm := hk1a.grown hgm (by simp)
  have hgs := hgm.size
  have HGM := Lib.hid hgm
  have HOW := Lib.hid hown
  clear q0 q1 q34 hgm hown
  obtain ⟨⟨q0, q1, q34⟩, _⟩ := HT2.out wm hkm
  
  have hb5 : BytesAt (wm.alloc (.cells #[.int .u8 0] 5 (0, 0))) (.slice (some ⟨wm.heap.size, 0, none⟩) 1 1) [0] := bytes_of_block (l := [0]) (heap_new_at rfl)
  have HB5 := Lib.hid hb5
  clear hb5
  go_wp2_with (refine wpList_append_bytes rfl (.tmp 60) (.tmp 61) rfl w1.heap.size _ 0 [] (by rfl) (HOW.out.alloc _) _ [0] (by rfl) HB5.out (by simp) (by simp; omega) ?_)
  intro v6 w6 ho6 hg6
  have hk6 : Keeps [] wa w6 := (hkm.alloc _).grown hg6 (fun j hj => .inr (by have := (HOW.out.lt j hj).1; omega))
  have hs6 := hg6.size
  simp at hs6
  have ho6b : w6.ownsRow w1.heap.size 5 1 v6 1 (p.head.map B) := by
    have e : p.head = [0] := by unfold Pf.head; rw [HF.out]; rfl
    rw [e]
    exact ho6
  have HO6 := Lib.hid ho6b
  clear q0 q1 q34 ho6 hg6 ho6b
  obtain ⟨⟨q0, q1, q34⟩, r6⟩ := HT2.out w6 hk6
  have hb8 : BytesAt w6 (.slice (some ⟨w.heap.size, 2, none⟩) 32 32) p.bits := .inr ⟨w.heap.size, 2, 32, by rw [HB.out], by rw [HB.out]; exact Nat.le_refl _, by simp [maxLen], by have := hk6.size; omega, r6⟩
  have HB8 := Lib.hid hb8
  clear r6 hb8
  go_wp2_with (refine wpList_append_bytes rfl (.tmp 63) (.tmp 65) rfl w1.heap.size _ 1 _ (by rfl) HO6.out _ p.bits (by rfl) HB8.out (by have := HB.out; omega) (by omega) ?_)
  intro v8 w8 ho8 hg8
  have hk8 : Keeps [] wa w8 := hk6.grown hg8 (fun j hj => .inr (by have := (HO6.out.lt j hj).1; omega))
  have hs8 := hg8.size
  have ho8b : w8.ownsRow w1.heap.size 5 1 v8 (1 + p.bits.length) ((p.head ++ p.bits).map B) := by rw [List.map_append]; exact ho8
  have HO8 := Lib.hid ho8b
  clear q0 q1 q34 ho8 hg8 ho8b
  obtain ⟨⟨q0, q1, q34⟩, _⟩ := HT2.out w8 hk8
  have hbl8 := HB.out
  have hkw8 := hka.trans (G := []) hk8 (by simp)
  have HKW8 := Lib.hid hkw8
  have HK8 := Lib.hid hk8
  have HBL8 := Lib.hid hbl8
  clear hkw8 hbl8 hk8
  go_wp2_with fail
  go_loopw [4, 70] (fun rv i wr => ∃ k : Nat, k ≤ p.sums.length ∧ i = .int .i64 k ∧ wr.ownsRow w1.heap.size 5 1 rv (1 + 32 + 32 * k) ((p.head ++ p.bits ++ (p.sums.take k).flatten).map B) ∧ Keeps [] wa wr ∧ w1.heap.size ≤ wr.heap.size) (fun _ i _ => p.sums.length - (intOf i).toNat)
  case atStart => exact ⟨0, Nat.zero_le _, rfl, by have h := HO8.out; rw [HBL8.out] at h; simpa using h, HK8.out, by omega⟩
  case round =>
    obtain ⟨k, hk, rfl, hown, hkr, hkr2⟩ := hrel
    have hsr := hkr.size
    have hov := hown.lt
    have HOWN := Lib.hid hown
    have hszr : w1.heap.size ≤ wr.heap.size := hkr2
    clear hown q0 q1 q34
    by_cases hlt : k < p.sums.length
    · obtain ⟨g2, o2, rfl, hg2, hr2⟩ := HS.out.at (by omega)
      have hl := HD.out _ (List.getElem_mem hlt)
      have q2 := SumsAt.row hr2 HD.out hlt ((hka.trans (G := []) hkr (by simp)).block g2 hg2 (by simp))
      obtain ⟨x, hx⟩ : ∃ x, x = p.sums[k] := ⟨_, rfl⟩
      rw [← hx] at q2 hl
      have HSD := Lib.hid (size_digest_of hl)
      have HXX := Lib.hid hx
      have HLX := Lib.hid hl
      have Q2 := Lib.hid q2
      have b0 : (0 : Int) ≤ (k : Int) := by omega
      have b1 : (k : Int) < (p.sums.length : Int) := by omega
      clear q2 hr2 hx hl
      have hown2 : ((wr.alloc (.cells (Array.replicate 32 (Value.int .u8 0)) 45 (0, 0))).setCells wr.heap.size 0 (x.map B)).ownsRow w1.heap.size 5 1 u4 (1 + 32 + 32 * k) ((p.head ++ p.bits ++ (p.sums.take k).flatten).map B) := ownsRow_keep HOWN.out (fun j hj => by
        have := (hov j hj).2
        rw [heap_setCells_other _ _ _ (by omega), heap_old_at this])
      have hbx : BytesAt ((wr.alloc (.cells (Array.replicate 32 (Value.int .u8 0)) 45 (0, 0))).setCells wr.heap.size 0 (x.map B)) (.slice (some ⟨wr.heap.size, 0, none⟩) 32 32) x := by
        have h := bytes_of_block (store_digest (heap_new_at rfl) HLX.out : ((wr.alloc (.cells (Array.replicate 32 (Value.int .u8 0)) 45 (0, 0))).setCells wr.heap.size 0 (x.map B)).heap[wr.heap.size]? = _) (by rw [HLX.out]; omega)
        rw [HLX.out] at h
        exact h
      have hk2 : Keeps [] wa ((wr.alloc (.cells (Array.replicate 32 (Value.int .u8 0)) 45 (0, 0))).setCells wr.heap.size 0 (x.map B)) := (hkr.alloc _).setCells (.inr hsr) 0 _
      have hsx : ((wr.alloc (.cells (Array.replicate 32 (Value.int .u8 0)) 45 (0, 0))).setCells wr.heap.size 0 (x.map B)).heap.size = wr.heap.size + 1 := by rw [size_setCells]; simp
      obtain ⟨PL, hPL⟩ : ∃ PL, PL = (p.head ++ p.bits ++ (p.sums.take k).flatten).map B := ⟨_, rfl⟩
      rw [← hPL] at hown2
      have HPL := Lib.hid hPL
      have HO2 := Lib.hid hown2
      have HBX := Lib.hid hbx
      have HK2 := Lib.hid hk2
      have HSX := Lib.hid hsx
      clear hown2 hbx hk2 hsx hPL
      go_wp2_with (first | (refine wpList_append_bytes rfl (.tmp 74) (.tmp 75) rfl w1.heap.size _ (1 + 32 + 32 * k) _ (by rfl) HO2.out _ x (by rfl) HBX.out (by rw [HLX.out]; omega) (by rw [HSX.out]; omega) ?_) | (refine wpList_load_mid rfl 45 (.tmp 72) rfl g2 (o2 + k * 32) (by rfl) (x.map B) _ Q2.out Try.underlying45 rfl HSD.out ?_) | (refine wl_alloc rfl 45 rfl ?_; refine ⟨_, _, run_alloc _ info_digest, ?_⟩; try simp only [Act.put, List.setIfInBounds_toArray, List.set_cons_zero, List.set_cons_succ, List.getElem_toArray, List.getElem_cons_zero, List.getElem_cons_succ]) | (refine wl_store rfl 45 (.tmp 6) (.tmp 73) rfl ?_; refine ⟨_, run_store_digest (heap_new_at rfl) HLX.out, ?_⟩; try simp only [Act.put, List.setIfInBounds_toArray, List.set_cons_zero, List.set_cons_succ, List.getElem_toArray, List.getElem_cons_zero, List.getElem_cons_succ]))
      intro vn wn hon hgn
      have HON := Lib.hid hon
      have HGN := Lib.hid hgn
      clear hon hgn
      go_wp2_with fail
      go_roundw
      case rel =>
        have h1 := HON.out
        rw [HPL.out, ← List.map_append, HLX.out] at h1
        have e : p.head ++ p.bits ++ (p.sums.take (k + 1)).flatten = p.head ++ p.bits ++ (p.sums.take k).flatten ++ x := by
          rw [List.take_succ_eq_append_getElem hlt, ← HXX.out, List.flatten_append, List.append_assoc, List.append_assoc, List.append_assoc]
          simp
        refine ⟨k + 1, by omega, by go_num, ?_, HK2.out.grown HGN.out (fun j hj => .inr (by have := (hov j hj).1; omega)), by have := HGN.out.size; rw [HSX.out] at this; omega⟩
        rw [e, show 1 + 32 + 32 * (k + 1) = 1 + 32 + 32 * k + 32 from by omega]
        exact h1
      case measure => simp [intOf]; omega
    · have e : k = p.sums.length := by omega
      subst e
      go_wp2_with fail
      go_ret2
      have h := HOWN.out
      rw [List.take_length] at h
      have hl : p.enc.length = 1 + 32 + 32 * p.sums.length := by have := h.1; rw [List.length_map, Nat.mul_one] at this; exact this
      refine ⟨u4, rfl, ?_, fun j hj => by have := (hov j hj).1; have := hka.size; omega, hka.trans (G := []) hkr (by simp)⟩
      unfold OwnB
      rw [hl]
      exact ownsRow_base h
end Go.Proofs.Ytnobhfpjchofpaa
