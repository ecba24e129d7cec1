/-
  The document's answer for layer 12: Decode of a text that begins with 1.
-/
import Derived.Test.YtnobhfpjchofpaaCt
import Derived.Test.YtnobhfpjchofpaaCo
namespace Go.Proofs.Ytnobhfpjchofpaa
set_option linter.unusedVariables false
set_option linter.unusedSimpArgs false
open Go.RowKit

set_option maxRecDepth 100000 in
set_option maxHeartbeats 3200000 in
theorem refdec_one_long {w : World} {v : Value} {l : List UInt8} (hv : BytesAt w v l) {x y : UInt8} {t : List UInt8} (hl : l = 1 :: x :: y :: t) {n : Nat} (hn : n = x.toNat + 256 * y.toNat) (hb : n ≤ 128) (hs : n ≤ t.length) (h32 : 32 ≤ (t.drop n).length) (hlen : l.length ≤ 2097152) :
    Calls Try.prog 25 #[v] w fun e w' => REnd true (t.take n) (t.drop n) w e w' := by
  subst hl
  have HM := Lib.hid hn
  clear hn
  obtain ⟨t2, ht2⟩ : ∃ t2, t2 = t.drop n := ⟨_, rfl⟩
  rw [← ht2] at h32 ⊢
  have ht2l : t2.length + n = t.length := by rw [ht2, List.length_drop]; omega
  have HT2 := Lib.hid ht2
  clear ht2
  obtain ⟨a, c, rfl, hc, hm⟩ := hv.form
  obtain ⟨Z, hZ⟩ : ∃ Z, Z = (pfCells pf0 (.slice none 0 0) (.slice none 0 0)) := ⟨_, rfl⟩
  have hal := fun (w : World) => run_alloc (P := Try.prog) w info_proof
  rw [zProof_cells, show (⟨false, [], List.replicate 32 0, []⟩ : Pf) = pf0 from rfl, ← hZ] at hal
  obtain ⟨w0, hw0⟩ : ∃ w0, w0 = (w.alloc (.cells Z.toArray 30 (0, 0))).alloc (.cells Z.toArray 30 (0, 0)) := ⟨_, rfl⟩
  have x0 : w0.heap[w.heap.size]? = some (.cells Z.toArray 30 (0, 0)) := by rw [hw0, heap_old_at (by simp), heap_new_at rfl]
  have x1 : w0.heap[w.heap.size + 1]? = some (.cells Z.toArray 30 (0, 0)) := by rw [hw0, heap_new_at (by simp)]
  have K0 : Keeps [] w w0 := by rw [hw0]; exact ((Keeps.refl _ _).alloc _).alloc _
  have s1 : (w.alloc (.cells Z.toArray 30 (0, 0))).heap.size = w.heap.size + 1 := by simp
  have hzl : Z.length = 35 := by rw [hZ]; exact pf_length (by simp [pf0, zero32]) _ _
  have hz1 : ∀ v ∈ Z, v.oneCell' = true := by rw [hZ]; exact pf_ones
  have hbz := run_build_zero
  rw [← hZ] at hbz
  unfold maxLen at hm
  have HBZ := Lib.hid hbz
  have HZ := Lib.hid hZ
  have HAL := Lib.hid hal
  have HW := Lib.hid hw0
  have S1 := Lib.hid s1
  have X0 := Lib.hid x0
  have X1 := Lib.hid x1
  have HZL := Lib.hid hzl
  have HZ1 := Lib.hid hz1
  have y0 := lt_of_heap x0
  have y1 := lt_of_heap x1
  have HV := Lib.hid hv
  clear hZ hal hw0 s1 x1 hv hzl hz1 hbz x0
  obtain ⟨g, o, rfl, hg, hr⟩ := HV.out.at (by simp)
  have c0 := range_byte (w' := w0) hr (K0.block g hg (by simp)) (k := 0) rfl
  have c1 := range_byte (w' := w0) hr (K0.block g hg (by simp)) (k := 1) rfl
  have c2 := range_byte (w' := w0) hr (K0.block g hg (by simp)) (k := 2) rfl
  rw [Nat.add_zero] at c0
  have c0' : w0.cell? ⟨g, o, none⟩ = some (.int .u8 1) := c0
  have hx8 := x.toNat_lt
  have hy8 := y.toNat_lt
  obtain ⟨N, hN⟩ : ∃ N, N = (1 :: x :: y :: t : List UInt8).length := ⟨_, rfl⟩
  have N3 : N = 3 + t.length := by rw [hN]; simp; omega
  rw [← hN] at hc hlen ⊢
  have g3 : (3 : Int) ≤ (N : Int) := by omega
  have n0 : 0 < N := by omega
  have n1 : (1 : Int) < (N : Int) := by omega
  have n2 : (2 : Int) < (N : Int) := by omega
  have HNL := Lib.hid N3
  have HNN := Lib.hid hN
  have HR := Lib.hid hr
  clear c0 hN N3 hr
  go_enter Try.func25, Try.ntmps25
  go_upto_region 2 with (refine wl_alloc rfl 30 rfl ?_; refine ⟨_, _, HAL.out _, ?_⟩; try simp only [Act.put, List.setIfInBounds_toArray, List.set_cons_zero, List.set_cons_succ, List.getElem_toArray, List.getElem_cons_zero, List.getElem_cons_succ])
  rw [S1.out, ← HW.out]
  go_upto_region 4 with fail
  have hw1 : IntKind.i64.wrap (x.toNat : Int) = (x.toNat : Int) := IntWalk.i64_in _ (by omega)
  have hw2 : IntKind.i64.wrap (y.toNat : Int) = (y.toNat : Int) := IntWalk.i64_in _ (by omega)
  have hw3 : IntKind.i64.wrap (256 * (y.toNat : Int)) = 256 * (y.toNat : Int) := IntWalk.i64_in _ (by omega)
  have hw4 : IntKind.i64.wrap ((x.toNat : Int) + 256 * (y.toNat : Int)) = (n : Int) := by
    rw [IntWalk.i64_in _ (by omega), HM.out]
    omega
  refine wp_region_held_drew (S := (fun w' => (w'.cell? ⟨g, o + 1, none⟩ = some (.int .u8 x.toNat) ∧ w'.cell? ⟨g, o + 2, none⟩ = some (.int .u8 y.toNat)) ∧ Keeps [] w0 w')) (by kernel_rfl) ?_ (fun hHeld => ?_)
  · exact ⟨⟨c1, c2⟩, (Keeps.refl _ _).drew⟩
  refine' wpAnyH_take (i := 0) (v := _) rfl (by kernel_rfl) (by kernel_rfl) (by kernel_rfl) (fun _ _ _ h => h) (Or.inl ⟨by rfl, ?_⟩) (by assumption) ?_
  rotate_left 1
  · (intro w0 hSw; (try dsimp only at hSw); go_split_ands; go_simp; (try with_reducible rfl))
  try simp only [Act.put, List.setIfInBounds_toArray, List.set_cons_zero, List.set_cons_succ, List.getElem_toArray, List.getElem_cons_zero, List.getElem_cons_succ]
  refine' wpAnyH_take (i := 1) (v := _) rfl (by kernel_rfl) (by kernel_rfl) (by kernel_rfl) (fun _ _ _ h => h) (Or.inl ⟨by rfl, ?_⟩) (by assumption) ?_
  rotate_left 1
  · (intro w0 hSw; (try dsimp only at hSw); go_split_ands; go_simp; (try with_reducible rfl))
  try simp only [Act.put, List.setIfInBounds_toArray, List.set_cons_zero, List.set_cons_succ, List.getElem_toArray, List.getElem_cons_zero, List.getElem_cons_succ]
  refine' wpAnyH_take (i := 2) (v := _) rfl (by kernel_rfl) (by kernel_rfl) (by kernel_rfl) (fun _ _ _ h => h) (Or.inl ⟨by rfl, ?_⟩) (by assumption) ?_
  rotate_left 1
  · (intro w0 hSw; (try dsimp only at hSw); go_split_ands; go_simp; (try with_reducible rfl))
  try simp only [Act.put, List.setIfInBounds_toArray, List.set_cons_zero, List.set_cons_succ, List.getElem_toArray, List.getElem_cons_zero, List.getElem_cons_succ]
  refine' wpAnyH_take (i := 3) (v := _) rfl (by kernel_rfl) (by kernel_rfl) (by kernel_rfl) (fun _ _ _ h => h) (Or.inl ⟨by rfl, ?_⟩) (by assumption) ?_
  rotate_left 1
  · (intro w0 hSw; (try dsimp only at hSw); go_split_ands; go_simp; (try with_reducible rfl))
  try simp only [Act.put, List.setIfInBounds_toArray, List.set_cons_zero, List.set_cons_succ, List.getElem_toArray, List.getElem_cons_zero, List.getElem_cons_succ]
  refine' wpAnyH_take (i := 4) (v := _) rfl (by kernel_rfl) (by kernel_rfl) (by kernel_rfl) (fun _ _ _ h => h) (Or.inl ⟨by rfl, ?_⟩) (by assumption) ?_
  rotate_left 1
  · (intro w0 hSw; (try dsimp only at hSw); go_split_ands; go_simp; (try with_reducible rfl))
  try simp only [Act.put, List.setIfInBounds_toArray, List.set_cons_zero, List.set_cons_succ, List.getElem_toArray, List.getElem_cons_zero, List.getElem_cons_succ]
  refine' wpAnyH_take (i := 5) (v := _) rfl (by kernel_rfl) (by kernel_rfl) (by kernel_rfl) (fun _ _ _ h => h) (Or.inl ⟨by rfl, ?_⟩) (by assumption) ?_
  rotate_left 1
  · (intro w0 hSw; (try dsimp only at hSw); go_split_ands; go_simp; (try with_reducible rfl))
  try simp only [Act.put, List.setIfInBounds_toArray, List.set_cons_zero, List.set_cons_succ, List.getElem_toArray, List.getElem_cons_zero, List.getElem_cons_succ]
  refine' wpAnyH_take (i := 6) (v := _) rfl (by kernel_rfl) (by kernel_rfl) (by kernel_rfl) (fun _ _ _ h => h) (Or.inl ⟨by rfl, ?_⟩) (by assumption) ?_
  rotate_left 1
  · (intro w0 hSw; (try dsimp only at hSw); go_split_ands; go_simp; (try with_reducible rfl))
  try simp only [Act.put, List.setIfInBounds_toArray, List.set_cons_zero, List.set_cons_succ, List.getElem_toArray, List.getElem_cons_zero, List.getElem_cons_succ]
  refine' wpAnyH_take (i := 7) (v := _) rfl (by kernel_rfl) (by kernel_rfl) (by kernel_rfl) (fun _ _ _ h => h) (Or.inl ⟨by rfl, ?_⟩) (by assumption) ?_
  rotate_left 1
  · (intro w0 hSw; (try dsimp only at hSw); go_split_ands; go_simp; (try with_reducible rfl))
  try simp only [Act.put, List.setIfInBounds_toArray, List.set_cons_zero, List.set_cons_succ, List.getElem_toArray, List.getElem_cons_zero, List.getElem_cons_succ]
  refine' wpAnyH_take (i := 8) (v := _) rfl (by kernel_rfl) (by kernel_rfl) (by kernel_rfl) (fun _ _ _ h => h) (Or.inl ⟨by rfl, ?_⟩) (by assumption) ?_
  rotate_left 1
  · (intro w0 hSw; (try dsimp only at hSw); go_split_ands; go_simp; (try with_reducible rfl))
  try simp only [Act.put, List.setIfInBounds_toArray, List.set_cons_zero, List.set_cons_succ, List.getElem_toArray, List.getElem_cons_zero, List.getElem_cons_succ]
  refine' wpAnyH_take (i := 9) (v := _) rfl (by kernel_rfl) (by kernel_rfl) (by kernel_rfl) (fun _ _ _ h => h) (Or.inl ⟨by rfl, ?_⟩) (by assumption) ?_
  rotate_left 1
  · (intro w0 hSw; (try dsimp only at hSw); go_split_ands; go_simp; (try with_reducible rfl))
  try simp only [Act.put, List.setIfInBounds_toArray, List.set_cons_zero, List.set_cons_succ, List.getElem_toArray, List.getElem_cons_zero, List.getElem_cons_succ]
  refine' wpAnyH_take (i := 10) (v := _) rfl (by kernel_rfl) (by kernel_rfl) (by kernel_rfl) (fun _ _ _ h => h) (Or.inl ⟨by rfl, ?_⟩) (by assumption) ?_
  rotate_left 1
  · (intro w0 hSw; (try dsimp only at hSw); go_split_ands; go_simp; (try with_reducible rfl))
  try simp only [Act.put, List.setIfInBounds_toArray, List.set_cons_zero, List.set_cons_succ, List.getElem_toArray, List.getElem_cons_zero, List.getElem_cons_succ]
  refine wpAnyH_done (by kernel_rfl) ?_ _
  clear hw1 hw2 hw3 hw4 c1 c2
  obtain ⟨wd, hwd⟩ : ∃ wd, wd = w0.drew := ⟨_, rfl⟩
  rw [← hwd]
  have Kd : Keeps [] w0 wd := by rw [hwd]; exact (Keeps.refl _ _).drew
  have KD := K0.trans (G := []) Kd (by simp)
  have hz := (Kd.block _ y0 (by simp)).trans X0.out
  have hpd := (Kd.block _ y1 (by simp)).trans X1.out
  clear hwd hHeld
  have hc3 : c ≠ 3 := by have := HNL.out; omega
  have g5 : decide ((128 : Int) < (n : Int)) = false := by simp; omega
  have g6 : ¬ (N : Int) < 3 + (n : Int) := by have := HNL.out; omega
  have g6' : 3 + (n : Int) ≤ (N : Int) := by omega
  have g6c : 3 + (n : Int) ≤ (c : Int) := by omega
  have hpd' : wd.heap[w.heap.size + 1]? = some (.cells (pfCells pf0 (.slice none 0 0) (.slice none 0 0)).toArray 30 (0, 0)) := by rw [hpd, HZ.out]
  have hbf3 : BytesAt w (.slice (some ⟨g, o, none⟩) N c) (1 :: x :: y :: t) := HNN.out ▸ HV.out
  obtain ⟨we, hwe⟩ : ∃ we, we = wd.setCell ⟨w.heap.size + 1, 0, none⟩ (.bool true) := ⟨_, rfl⟩
  have hpe : we.heap[w.heap.size + 1]? = some (.cells (pfCells ⟨true, [], zero32, []⟩ (.slice none 0 0) (.slice none 0 0)).toArray 30 (0, 0)) := by
    have h := heap_setCell_same wd (w.heap.size + 1) 0 _ _ (.bool true) hpd'
    rw [pf_set0] at h
    rw [hwe]
    exact h
  have Kde : Keeps [w.heap.size + 1] wd we := by rw [hwe]; exact (Keeps.refl _ _).setCell (.inl (by simp)) _
  have Ke := KD.trans (G := [w.heap.size + 1]) Kde (fun k hk => .inr (by simp at hk; omega))
  obtain ⟨e00, _, _⟩ := pf_cells hpd' (by simp [pf0, zero32])
  have e0f := frozen_of_row wd (w.heap.size + 1) 0 _ _ hpd'
  have hlpd := lt_of_heap hpd'
  have hbk := bytes_back (n := 3) (by rw [← HNN.out]; exact hbf3) (by rw [← HNN.out]; omega) (by simp only [maxLen]; omega)
  have htn : (t.take n).length = n := by rw [List.length_take]; omega
  have HWE := Lib.hid hwe
  have HPE := Lib.hid hpe
  have HKE := Lib.hid Ke
  have HTN := Lib.hid htn
  have hze := (Kde.block w.heap.size (lt_of_heap hz) (by simp)).trans hz
  have HZE := Lib.hid hze
  have hbk2 : BytesAt w (.slice (some ⟨g, o + 3, none⟩) n (c - 3)) (t.take n) := by
    have es : ∀ M : Nat, sliced (some ⟨g, o, none⟩) 3 M c 1 = .slice (some ⟨g, o + 3, none⟩) (M - 3) (c - 3) := fun M => by
      unfold sliced
      rw [if_neg (by omega)]
      simp [Addr.add_mid]
    rw [es] at hbk
    have hl3 : (1 :: x :: y :: t : List UInt8).length - 3 = ((1 :: x :: y :: t : List UInt8).drop 3).length := by rw [List.length_drop]
    rw [hl3] at hbk
    exact bytes_front2 hbk hs
  have hbe := hbk2.keeps HKE.out (by simp)
  rw [show (Value.slice (some ⟨g, o + 3, none⟩) n (c - 3)) = .slice (some ⟨g, o + 3, none⟩) n (c - 3) from rfl] at hbe
  have cB := refBytes_any hbe (by rw [htn]; omega)
  have CB := Lib.hid cB
  clear hbk hbk2 hbe cB hwe hpe Ke htn hze hpd hpd' hz Kde hbf3
  go_upto_region 8 with fail
  rw [← HWE.out]
  go_wp2_with fail
  refine CB.out.mono ?_
  rintro e wf ⟨vv, rfl, hO, hfr, hkf⟩
  obtain ⟨av, cv, rfl⟩ := ownB_slice hO
  rw [HTN.out] at hO hfr ⊢
  have hpf := (hkf.block _ (lt_of_heap HPE.out) (by simp)).trans HPE.out
  have hzf := (hkf.block _ (lt_of_heap HZE.out) (by simp)).trans HZE.out
  obtain ⟨_, e11, _⟩ := pf_cells hpf (by simp [zero32])
  have e1f := frozen_of_row wf (w.heap.size + 1) 1 _ _ hpf
  have hlpf := lt_of_heap hpf
  have Kf := HKE.out.trans (G := []) hkf (by simp)
  obtain ⟨wt, hwt⟩ : ∃ wt, wt = wf.setCell ⟨w.heap.size + 1, 1, none⟩ (.slice av n cv) := ⟨_, rfl⟩
  have hpt : wt.heap[w.heap.size + 1]? = some (.cells (pfCells ⟨true, t.take n, zero32, []⟩ (.slice av n cv) (.slice none 0 0)).toArray 30 (0, 0)) := by
    have h := heap_setCell_same wf (w.heap.size + 1) 1 _ _ (.slice av n cv) hpf
    rw [pf_set1 _ _ _ _ (t.take n)] at h
    rw [hwt]
    exact h
  have Kft : Keeps [w.heap.size + 1] wf wt := by rw [hwt]; exact (Keeps.refl _ _).setCell (.inl (by simp)) _
  have KT := Kf.trans (G := [w.heap.size + 1]) Kft (fun k hk => .inr (by simp at hk; omega))
  have hzt := (Kft.block w.heap.size (lt_of_heap hzf) (by simp)).trans hzf
  have hsE := HKE.out.size
  have hlE := lt_of_heap HPE.out
  have hvv : OwnB wt (.slice av n cv) (t.take n) ∧ ∀ j, (Value.slice av n cv).ownBlock = some j → w.heap.size + 1 < j ∧ j < wt.heap.size := by
    have key : ∀ j, (Value.slice av n cv).ownBlock = some j → w.heap.size + 1 < j := fun j hj => by have := hfr j hj; omega
    refine ⟨ownsRow_keep hO (fun j hj => Kft.block j (World.ownsRow.lt hO j hj).2 (by have := key j hj; simp; omega)), fun j hj => ⟨key j hj, Nat.lt_of_lt_of_le (World.ownsRow.lt hO j hj).2 Kft.size⟩⟩
  have HVV := Lib.hid hvv
  have HWT := Lib.hid hwt
  have HZT := Lib.hid hzt
  clear hwt hvv hpf hzf hO hfr Kft Kf hkf hzt
  go_upto_region 12 with fail
  rw [← HWT.out]
  clear e11 e1f
  obtain ⟨A, hA⟩ : ∃ A : Nat, A = 3 + n := ⟨_, rfl⟩
  rw [show (3 + (n : Int)) = (A : Int) from by omega]
  have hA131 : A ≤ 131 := by omega
  have hna : N = A + t2.length := by have := HNL.out; omega
  have hat : ∀ i b, t2[i]? = some b → (1 :: x :: y :: t : List UInt8)[A + i]? = some b := fun i b h => by
    rw [HT2.out, List.getElem?_drop] at h
    rw [hA, show 3 + n + i = (n + i) + 1 + 1 + 1 from by omega, List.getElem?_cons_succ, List.getElem?_cons_succ, List.getElem?_cons_succ]
    exact h
  obtain ⟨l0, hl0⟩ : ∃ l0 : List UInt8, l0 = 1 :: x :: y :: t := ⟨_, rfl⟩
  rw [← hl0] at hat HR
  have HNA := Lib.hid hna
  have HAT := Lib.hid hat
  have HA := Lib.hid hA
  clear hna hat hl0 hA g5 g6 g6' g6c
  have y1t := lt_of_heap hpt
  have hgt : g < wt.heap.size := by have := KT.size; omega
  have hrt : wt.rangeAt g o (l0.map B) := rangeAt_of_heap HR.out (KT.block g hg (by simp))
  have g7 : ¬ (N : Int) < (A + 32) := by have := HNA.out; omega
  obtain ⟨bs, hbs⟩ : ∃ bs, bs = t2.take 32 := ⟨_, rfl⟩
  obtain ⟨s, hs⟩ : ∃ s, s = t2.drop 32 := ⟨_, rfl⟩
  have hbl : bs.length = 32 := by rw [hbs, List.length_take]; omega
  have hsl : t2.length = 32 + s.length := by rw [hs, List.length_drop]; omega
  have hab : ∀ i b, bs[i]? = some b → l0[A + i]? = some b := fun i b h => HAT.out i b (by
    rw [hbs, List.getElem?_take] at h
    split at h
    · exact h
    · cases h)
  have has : ∀ i b, s[i]? = some b → l0[(A + 32) + i]? = some b := fun i b h => by
    have := HAT.out (32 + i) b (by rw [hs, List.getElem?_drop] at h; exact h)
    rwa [← Nat.add_assoc] at this
  have HAB := Lib.hid hab
  have HAS := Lib.hid has
  have HBL := Lib.hid hbl
  have HSL := Lib.hid hsl
  have HBS := Lib.hid hbs
  have HSS := Lib.hid hs
  have HRT := Lib.hid hrt
  have HPT := Lib.hid hpt
  have KT0 := Lib.hid KT
  have hszt := KT.size
  clear hbs hs hbl hsl hab has hrt hpt KT
  go_wp2_with fail
  go_loopw [7] (fun i wr => ∃ k : Nat, k ≤ 32 ∧ i = .int .i64 k ∧ wr.heap[w.heap.size + 1]? = some (.cells (pfCells ⟨true, (t.take n), bs.take k ++ zero32.drop k, []⟩ (.slice av n cv) (.slice none 0 0)).toArray 30 (0, 0)) ∧ Keeps [w.heap.size + 1] wt wr) (fun i _ => 32 - (intOf i).toNat)
  case atStart => exact ⟨0, by omega, rfl, HPT.out, Keeps.refl _ _⟩
  case round =>
    obtain ⟨k, hk, rfl, hpr, hkr⟩ := hrel
    have hcl : (bs.take k ++ zero32.drop k).length = 32 := by rw [List.length_append, List.length_take, List.length_drop, HBL.out]; simp [zero32]; omega
    have hszr := hkr.size
    by_cases hlt : k < 32
    · obtain ⟨b, hb⟩ : ∃ b, bs[k]? = some b := ⟨bs[k]'(by rw [HBL.out]; exact hlt), List.getElem?_eq_getElem _⟩
      have e1 := range_byte (w' := wr) HRT.out (hkr.block g hgt (by simp; omega)) (HAB.out k b hb)
      have e2 := frozen_of_row wr (w.heap.size + 1) (2 + k) _ _ hpr
      obtain ⟨b', hb'⟩ : ∃ b' : UInt8, (bs.take k ++ zero32.drop k)[k]? = some b' := ⟨_, List.getElem?_eq_getElem (by omega)⟩
      have e3 := pf_bit_cell hpr hcl hlt hb'
      have hset := heap_setCell_same wr (w.heap.size + 1) (2 + k) _ _ (B b) hpr
      rw [pf_setbit _ _ (by rw [hcl]; exact hlt), part_set (by rw [HBL.out]; rfl) hb] at hset
      have b0 : (0 : Int) ≤ (k : Int) := by omega
      have b1 : (k : Int) < 32 := by omega
      have b2 : (A : Int) + (k : Int) < (N : Int) := by have := HNA.out; omega
      have HSET := Lib.hid hset
      have HB := Lib.hid hb
      have hlp := lt_of_heap hpr
      clear hset hb hb' hpr hcl
      go_wp2_with fail
      go_roundw
      case rel => exact ⟨k + 1, by omega, by go_num, HSET.out, hkr.setCell (.inl (by simp)) _⟩
      case measure => simp [intOf]; omega
    · have e : k = 32 := by omega
      subst e
      simp only [show ((32 : Nat) : Int) = 32 from rfl]
      have ebs : bs.take 32 = bs := List.take_of_length_le (by rw [HBL.out]; exact Nat.le_refl _)
      rw [ebs, show zero32.drop 32 = [] from rfl, List.append_nil] at hpr
      clear ebs
      obtain ⟨w3, rfl⟩ : ∃ w3 : World, w3 = wr := ⟨_, rfl⟩
      have HKT3 := Lib.hid hkr
      have HP3 := Lib.hid hpr
      have K3 := KT0.out.trans (G := [w.heap.size + 1]) hkr (fun k hk => .inr (by simp at hk; omega))
      have hz3 := (hkr.block _ (show w.heap.size < wt.heap.size by omega) (by simp)).trans HZT.out
      have hg3 : g < w3.heap.size := by omega
      have hr3 : w3.rangeAt g o (l0.map B) := rangeAt_of_heap HRT.out (hkr.block g hgt (by simp; omega))
      have y13 := lt_of_heap hpr
      have HZ3 := Lib.hid hz3
      have HR3 := Lib.hid hr3
      have HK3 := Lib.hid K3
      clear hpr hcl hkr hz3 hr3 K3
      go_wp2_with fail
      go_loopw [5] (fun i wr => ∃ (k : Nat) (sv : Value), (A + 32) + 32 * k ≤ N ∧ i = .int .i64 (((A : Int) + 32) + 32 * (k : Int)) ∧ wr.ownsRow w3.heap.size 45 32 sv k (sumCells (chunksOf s k)) ∧ wr.heap[w.heap.size + 1]? = some (.cells (pfCells ⟨true, (t.take n), bs, []⟩ (.slice av n cv) sv).toArray 30 (0, 0)) ∧ Keeps [w.heap.size + 1] w3 wr) (fun i _ => N - (intOf i).toNat)
      case atStart => exact ⟨0, .slice none 0 0, by have := HNA.out; omega, by go_num, World.ownsRow_nil _ _ _ _, HP3.out, Keeps.refl _ _⟩
      case round =>
        obtain ⟨k, sv, hk, rfl, hown, hpr, hkr⟩ := hrel
        have hov := hown.lt
        have hszr := hkr.size
        have HOWN := Lib.hid hown
        have HPR := Lib.hid hpr
        have HKR := Lib.hid hkr
        clear hown hkr
        by_cases hlt : (A + 32) + 32 * k + 32 ≤ N
        · obtain ⟨q, hq⟩ : ∃ q, q = chunkAt s k := ⟨_, rfl⟩
          have hql : q.length = 32 := by rw [hq]; exact chunkAt_len (by have := HNA.out; have := HSL.out; omega)
          have hqg : ∀ j b, q[j]? = some b → l0[(A + 32) + 32 * k + j]? = some b := fun j b hb => by
            rw [Nat.add_assoc]
            exact HAS.out _ b (chunk_get (hq ▸ hb))
          have HQ := Lib.hid hq
          have HQL := Lib.hid hql
          have HQG := Lib.hid hqg
          have hlt' : ((A : Int) + 32) + 32 * (k : Int) + 32 ≤ (N : Int) := by omega
          have hgr : g < wr.heap.size := by omega
          have hrr : wr.rangeAt g o (l0.map B) := rangeAt_of_heap HR3.out (HKR.out.block g hg3 (by simp; omega))
          have HRR := Lib.hid hrr
          obtain ⟨wo, rfl⟩ : ∃ wo : World, wo = wr := ⟨_, rfl⟩
          clear hq hql hqg hpr hrr
          go_wp2_with (refine wl_alloc rfl 45 rfl ?_; refine ⟨_, _, run_alloc _ info_digest, ?_⟩; try simp only [Act.put, List.setIfInBounds_toArray, List.set_cons_zero, List.set_cons_succ, List.getElem_toArray, List.getElem_cons_zero, List.getElem_cons_succ])
          go_loopw [9] (fun i wr => ∃ j : Nat, j ≤ 32 ∧ i = .int .i64 j ∧ wr.heap[wo.heap.size]? = some (.cells ((q.take j ++ zero32.drop j).map B).toArray 45 (0, 0)) ∧ Keeps [] wo wr) (fun i _ => 32 - (intOf i).toNat)
          case atStart => exact ⟨0, by omega, rfl, by rw [List.take_zero, List.nil_append, List.drop_zero, zero_cells]; exact heap_new_at rfl, (Keeps.refl _ _).alloc _⟩
          case round =>
            obtain ⟨j, hj, rfl, hdr, hkd⟩ := hrel
            have hszd := hkd.size
            by_cases hjt : j < 32
            · obtain ⟨b, hb⟩ : ∃ b, q[j]? = some b := ⟨q[j]'(by rw [HQL.out]; exact hjt), List.getElem?_eq_getElem _⟩
              have e1 := range_byte (w' := wr) HRR.out (hkd.block g hgr (by simp)) (HQG.out j b hb)
              have e2 := frozen_of_row wr wo.heap.size j _ _ hdr
              obtain ⟨b', hb'⟩ : ∃ b' : UInt8, (q.take j ++ zero32.drop j)[j]? = some b' := ⟨_, List.getElem?_eq_getElem (by rw [List.length_append, List.length_take, List.length_drop, HQL.out]; simp [zero32]; omega)⟩
              have e3 := row_cell hdr hb'
              have hset := row_set hdr j b
              rw [part_set (by rw [HQL.out]; rfl) hb] at hset
              have b0 : (0 : Int) ≤ (j : Int) := by omega
              have b1 : (j : Int) < 32 := by omega
              have b2 : ((A : Int) + 32) + 32 * (k : Int) + (j : Int) < (N : Int) := by omega
              have HSET := Lib.hid hset
              have hld := lt_of_heap hdr
              clear hset hb hb' hdr
              go_wp2_with fail
              go_roundw
              case rel => exact ⟨j + 1, by omega, by go_num, HSET.out, hkd.setCell (.inr (Nat.le_refl _)) _⟩
              case measure => simp [intOf]; omega
            · have e : j = 32 := by omega
              subst e
              simp only [show ((32 : Nat) : Int) = 32 from rfl]
              rw [List.take_of_length_le (by rw [HQL.out]; exact Nat.le_refl _), show zero32.drop 32 = [] from rfl, List.append_nil] at hdr
              have hpw := (hkd.block (w.heap.size + 1) (by omega) (by simp)).trans HPR.out
              have q34 := (pf_cells hpw HBL.out).2.2
              have f34 := frozen_of_row wr (w.heap.size + 1) 34 _ _ hpw
              have howr : wr.ownsRow w3.heap.size 45 32 sv k (sumCells (chunksOf s k)) := ownsRow_keep HOWN.out (fun j hj => hkd.block j (hov j hj).2 (by simp))
              have l1 := howr.alloc (.cells (q.map B).toArray 45 (0, 0))
              have l2 : ∀ j u, (q.map B)[j]? = some u → (wr.alloc (.cells (q.map B).toArray 45 (0, 0))).cell? ((⟨wr.heap.size, 0, none⟩ : Addr).add j) = some u := World.news_of_block (cs := (q.map B).toArray) (t := 45) (fr := (0, 0)) (heap_new_at rfl)
              have l4 : (q.map B).length = 1 * 32 := by rw [List.length_map, HQL.out]
              have l5 : (wr.alloc (.cells (q.map B).toArray 45 (0, 0))).heap.size = wr.heap.size + 1 := by simp
              obtain ⟨i0, hi0, hz0, hz1, hz2⟩ := info_parts info_digest
              have HI0 := Lib.hid hi0
              have HZ0 := Lib.hid hz0
              have HZ1 := Lib.hid hz1
              have HZ2 := Lib.hid hz2
              have HL1 := Lib.hid l1
              have HL2 := Lib.hid l2
              have HL4 := Lib.hid l4
              have HL5 := Lib.hid l5
              have HPW := Lib.hid hpw
              have HRD := Lib.hid (rangeAt_all hdr)
              have HSD := Lib.hid (size_digest_of HQL.out)
              have hlpw := lt_of_heap hpw
              have hovp : sv.ownBlock ≠ some (w.heap.size + 1) := fun e => by have := (hov _ e).1; omega
              have HKD := Lib.hid hkd
              clear hi0 hz0 hz1 hz2 l1 l2 l4 l5 hpw hdr howr hkd
              go_wp2_with (first
                | (refine wpList_load_mid rfl 45 (.tmp 8) rfl wo.heap.size 0 (by rfl) (q.map B) _ HRD.out Try.underlying45 rfl HSD.out ?_; try simp only [Act.put, List.setIfInBounds_toArray, List.set_cons_zero, List.set_cons_succ, List.getElem_toArray, List.getElem_cons_zero, List.getElem_cons_succ])
                | (refine wl_buildSlice rfl 28 1 #[(0, .tmp 100)] #[(0, .agg (q.map B).toArray)] rfl (by simp [Act.eval]) ?_; refine ⟨_, _, run_buildSlice_one _ Try.underlying28 info_digest (cs := (q.map B).toArray) (by simpa using HQL.out) (by omega) (by omega), ?_⟩; try simp only [Act.put, List.setIfInBounds_toArray, List.set_cons_zero, List.set_cons_succ, List.getElem_toArray, List.getElem_cons_zero, List.getElem_cons_succ])
                | (refine wpList_append_lies _ rfl (.tmp 99) (.tmp 101) 28 rfl w3.heap.size 45 i0 (.agg (Array.replicate 32 (.int .u8 0))) 32 32 Try.underlying28 HI0.out HZ0.out HZ1.out HZ2.out (by simp [Value.cells]) (by omega) sv k (sumCells (chunksOf s k)) (by rfl) HL1.out ⟨wr.heap.size, 0, none⟩ 1 1 (q.map B) (by rfl) HL4.out HL2.out (B_one q) (by omega) (by simp only [maxLen]; omega) (by omega) (by rw [HL5.out]; omega) (wr.heap.size + 1) HL5.out ?_))
              intro gq cap wn h1 h2 h3 h4
              have fq : wn.heap[w.heap.size + 1]? = wr.heap[w.heap.size + 1]? := by
                rw [h2.block _ (by simp; omega) (fun e => hovp e.symm)]
                exact heap_old_at hlpw
              have hpn := fq.trans HPW.out
              have q34n := (pf_cells hpn HBL.out).2.2
              have f34n := frozen_of_row wn (w.heap.size + 1) 34 _ _ hpn
              have hkn := ((HKR.out.trans (G := []) HKD.out (by simp)).alloc (.cells (q.map B).toArray 45 (0, 0))).grown h2 (fun j hj => .inr (hov j hj).1)
              have H1 := Lib.hid h1
              have HPN := Lib.hid hpn
              have HKN := Lib.hid hkn
              have hlwn := lt_of_heap hpn
              clear h1 h2 h3 fq hpn hkn q34 f34
              go_wp2_with fail
              go_roundw
              case rel =>
                refine ⟨k + 1, .slice (some ⟨gq, 0, none⟩) (k + 1) cap, by omega, by go_num, ?_, ?_, HKN.out.setCell (.inl (by simp)) _⟩
                · have e : sumCells (chunksOf s (k + 1)) = sumCells (chunksOf s k) ++ q.map B := by
                    rw [chunksOf_succ, ← HQ.out]
                    simp [sumCells]
                  rw [e]
                  refine ownsRow_keep H1.out (fun j hj => Below.heap_setCell _ _ _ _ ?_)
                  have := (World.ownsRow.lt H1.out j hj).1
                  simp
                  omega
                · have h := heap_setCell_same wn (w.heap.size + 1) 34 _ _ (.slice (some ⟨gq, 0, none⟩) (k + 1) cap) HPN.out
                  rw [pf_set34 (p := ⟨true, (t.take n), bs, []⟩) HBL.out] at h
                  exact h
              case measure => simp [intOf]; omega
        · obtain ⟨a9, c9, rfl⟩ := owns_slice HOWN.out
          have q34 := (pf_cells hpr HBL.out).2.2
          have hrb := pf_bits hpr HBL.out
          have hlpr := lt_of_heap hpr
          have hzr := (HKR.out.block w.heap.size (by omega) (by simp)).trans HZ3.out
          have KR := HK3.out.trans (G := [w.heap.size + 1]) HKR.out (fun j hj => .inr (by simp at hj; omega))
          have hcl2 : ∀ wx, Keeps [] wr wx → wx.cell? ⟨w.heap.size + 1, 34, none⟩ = some (.slice a9 k c9) ∧ wx.rangeAt (w.heap.size + 1) 2 (bs.map B) := fun wx hk =>
            have h := (hk.block _ hlpr (by simp)).trans HPR.out
            ⟨(pf_cells h HBL.out).2.2, pf_bits h HBL.out⟩
          have HCL2 := Lib.hid hcl2
          have HZR := Lib.hid hzr
          have HSZB := Lib.hid (size_32_of HBL.out)
          clear hpr hrb hzr hcl2 q34
          by_cases hE : (A + 32) + 32 * k = N
          · have g9 : ((((A : Int) + 32) + 32 * (k : Int)) != (N : Int)) = false := by simp; omega
            go_wp2_with fail
            refine wp_region_held_drew (S := (fun w' => (w'.cell? ⟨w.heap.size + 1, 34, none⟩ = some (.slice a9 k c9) ∧ w'.rangeAt (w.heap.size + 1) 2 (bs.map B)) ∧ Keeps [] wr w')) (by kernel_rfl) ?_ (fun hHeld => ?_)
            · exact ⟨HCL2.out _ (Keeps.refl _ _).drew, (Keeps.refl _ _).drew⟩
            refine' wpAnyH_take (i := 0) (v := _) rfl (by kernel_rfl) (by kernel_rfl) (by kernel_rfl) (fun _ _ _ h => h) (Or.inl ⟨by rfl, ?_⟩) (by assumption) ?_
            rotate_left 1
            · (intro w0 hSw; (try dsimp only at hSw); go_split_ands; go_simp; (try with_reducible rfl))
            try simp only [Act.put, List.setIfInBounds_toArray, List.set_cons_zero, List.set_cons_succ, List.getElem_toArray, List.getElem_cons_zero, List.getElem_cons_succ]
            refine' wpAnyH_take (i := 1) (v := _) rfl (by kernel_rfl) (by kernel_rfl) (by kernel_rfl) (fun _ _ _ h => h) (Or.inl ⟨by rfl, ?_⟩) (by assumption) ?_
            rotate_left 1
            · (intro w0 hSw; (try dsimp only at hSw); go_split_ands; go_simp; (try with_reducible rfl))
            try simp only [Act.put, List.setIfInBounds_toArray, List.set_cons_zero, List.set_cons_succ, List.getElem_toArray, List.getElem_cons_zero, List.getElem_cons_succ]
            refine' wpAnyH_take (i := 2) (v := _) rfl (by kernel_rfl) (by kernel_rfl) (by kernel_rfl) (fun _ _ _ h => h) (Or.inl ⟨by rfl, ?_⟩) (by assumption) ?_
            rotate_left 1
            · (intro w0 hSw; (try dsimp only at hSw); go_split_ands; go_simp; (try with_reducible rfl))
            try simp only [Act.put, List.setIfInBounds_toArray, List.set_cons_zero, List.set_cons_succ, List.getElem_toArray, List.getElem_cons_zero, List.getElem_cons_succ]
            refine' wpAnyH_take (i := 3) (v := _) rfl (by kernel_rfl) (by kernel_rfl) (by kernel_rfl) (fun _ _ _ h => h) (Or.inl ⟨by rfl, ?_⟩) (by assumption) ?_
            rotate_left 1
            · (intro w0 hSw; (try dsimp only at hSw); go_split_ands; go_simp; (try with_reducible rfl))
            try simp only [Act.put, List.setIfInBounds_toArray, List.set_cons_zero, List.set_cons_succ, List.getElem_toArray, List.getElem_cons_zero, List.getElem_cons_succ]
            refine' wpAnyH_take (i := 4) (v := _) rfl (by kernel_rfl) (by kernel_rfl) (by kernel_rfl) (fun _ _ _ h => h) (Or.inl ⟨by rfl, ?_⟩) (by assumption) ?_
            rotate_left 1
            · (intro w0 hSw; (try dsimp only at hSw); go_split_ands; go_simp; (try with_reducible rfl))
            try simp only [Act.put, List.setIfInBounds_toArray, List.set_cons_zero, List.set_cons_succ, List.getElem_toArray, List.getElem_cons_zero, List.getElem_cons_succ]
            refine' wpAnyH_take (i := 5) (v := _) rfl (by kernel_rfl) (by kernel_rfl) (by kernel_rfl) (fun _ _ _ h => h) (Or.inl ⟨by rfl, ?_⟩) (by assumption) ?_
            rotate_left 1
            · (intro w0 hSw; (try dsimp only at hSw); go_split_ands; go_simp; (try with_reducible rfl))
            try simp only [Act.put, List.setIfInBounds_toArray, List.set_cons_zero, List.set_cons_succ, List.getElem_toArray, List.getElem_cons_zero, List.getElem_cons_succ]
            refine' wpAnyH_take (i := 6) (v := _) rfl (by kernel_rfl) (by kernel_rfl) (by kernel_rfl) (fun _ _ _ h => h) (Or.inl ⟨by rfl, ?_⟩) (by assumption) ?_
            rotate_left 1
            · (intro w0 hSw; (try dsimp only at hSw); go_split_ands; go_simp; (try with_reducible rfl))
            try simp only [Act.put, List.setIfInBounds_toArray, List.set_cons_zero, List.set_cons_succ, List.getElem_toArray, List.getElem_cons_zero, List.getElem_cons_succ]
            refine' wpAnyH_take (i := 7) (v := _) rfl (by kernel_rfl) (by kernel_rfl) (by kernel_rfl) (fun _ _ _ h => h) (Or.inl ⟨by rfl, ?_⟩) (by assumption) ?_
            rotate_left 1
            · (intro w0 hSw; (try dsimp only at hSw); go_split_ands; go_simp; (try with_reducible rfl))
            try simp only [Act.put, List.setIfInBounds_toArray, List.set_cons_zero, List.set_cons_succ, List.getElem_toArray, List.getElem_cons_zero, List.getElem_cons_succ]
            refine' wpAnyH_take (i := 8) (v := _) rfl (by kernel_rfl) (by kernel_rfl) (by kernel_rfl) (fun _ _ _ h => h) (Or.inl ⟨by rfl, ?_⟩) (by assumption) ?_
            rotate_left 1
            · (intro w0 hSw; (try dsimp only at hSw); go_split_ands; go_simp; (try with_reducible rfl))
            try simp only [Act.put, List.setIfInBounds_toArray, List.set_cons_zero, List.set_cons_succ, List.getElem_toArray, List.getElem_cons_zero, List.getElem_cons_succ]
            refine' wpAnyH_take (i := 9) (v := _) rfl (by kernel_rfl) (by kernel_rfl) (by kernel_rfl) (fun _ _ _ h => h) (yieldsIf_load_mid (by rfl) 27 (.tmp 112) rfl (w.heap.size + 1) 2 rfl (bs.map B) _ (fun _ h => h.1.2) Try.underlying27 rfl HSZB.out) (by assumption) ?_
            try simp only [Act.put, List.setIfInBounds_toArray, List.set_cons_zero, List.set_cons_succ, List.getElem_toArray, List.getElem_cons_zero, List.getElem_cons_succ]
            refine wpAnyH_ready (rs := [10]) (by kernel_rfl) (by simp) ?_
            refine AllReadyH.cons rfl (fun K hK => ?_) AllReadyH.nil
            go_simp
            refine (refOnes_any bs HBL.out).mono ?_
            rintro e w5 ⟨rfl, hk5⟩
            have hk5a : Keeps [] wr w5 := ((Keeps.refl _ _).drew).trans (G := []) hk5 (by simp)
            obtain ⟨m, hm⟩ : ∃ m, m = onesOf bs := ⟨_, rfl⟩
            rw [← hm]
            refine hK.out _ _ ?_ (fun hHeld => ?_)
            · exact ⟨HCL2.out _ hk5a, hk5a⟩
            clear hK K
            try simp only [Act.put, List.setIfInBounds_toArray, List.set_cons_zero, List.set_cons_succ, List.getElem_toArray, List.getElem_cons_zero, List.getElem_cons_succ]
            have HM := Lib.hid hm
            have hz5 := (hk5a.block w.heap.size (by omega) (by simp)).trans HZR.out
            have hp5 := (hk5a.block _ hlpr (by simp)).trans HPR.out
            have K5 := KR.trans (G := []) hk5a (by simp)
            clear hm
            by_cases hkm : k = m
            · have g10 : ((k : Int) != (m : Int)) = false := by rw [hkm]; simp
              refine' wpAnyH_take (i := 11) (v := _) rfl (by kernel_rfl) (by kernel_rfl) (by kernel_rfl) (fun _ _ _ h => h) (Or.inl ⟨by rfl, ?_⟩) (by assumption) ?_
              rotate_left 1
              · (intro w0 hSw; (try dsimp only at hSw); go_split_ands; go_simp; (try with_reducible rfl))
              try simp only [Act.put, List.setIfInBounds_toArray, List.set_cons_zero, List.set_cons_succ, List.getElem_toArray, List.getElem_cons_zero, List.getElem_cons_succ]
              refine' wpAnyH_take (i := 12) (v := _) rfl (by kernel_rfl) (by kernel_rfl) (by kernel_rfl) (fun _ _ _ h => h) (Or.inl ⟨by rfl, ?_⟩) (by assumption) ?_
              rotate_left 1
              · (intro w0 hSw; (try dsimp only at hSw); go_split_ands; go_simp; (try with_reducible rfl))
              try simp only [Act.put, List.setIfInBounds_toArray, List.set_cons_zero, List.set_cons_succ, List.getElem_toArray, List.getElem_cons_zero, List.getElem_cons_succ]
              refine wpAnyH_done (by kernel_rfl) ?_ _
              obtain ⟨R, hR⟩ : ∃ R, R = pfCells ⟨true, (t.take n), bs, []⟩ (.slice av n cv) (.slice a9 k c9) := ⟨_, rfl⟩
              have hRl : R.length = 35 := by rw [hR]; exact pf_length HBL.out _ _
              have hR1 : ∀ v ∈ R, v.oneCell' = true := by rw [hR]; exact pf_ones
              rw [← hR] at hp5
              have hst := run_store_pf hz5 HZL.out hRl hR1
              have hall := store_all (cs := R) hz5 (by rw [HZL.out, hRl])
              have hrr := rangeAt_all hp5
              have hsr : (Try.prog.info? 30).map (·.size) = some R.length := by rw [size_proof, hRl]
              have HRR9 := Lib.hid hR
              have HST := Lib.hid hst
              have HALL := Lib.hid hall
              have HRA9 := Lib.hid hrr
              have HSR := Lib.hid hsr
              have HRL := Lib.hid hRl
              clear hR hRl hR1 hp5 hst hall hrr hsr hz5
              go_wp2_with (first | (refine wpList_load_mid rfl 30 (.tmp 4) rfl (w.heap.size + 1) 0 (by rfl) R _ HRA9.out Try.underlying30 rfl HSR.out ?_) | (refine wl_store rfl 30 (.tmp 2) (.tmp 118) rfl ?_; refine ⟨_, HST.out, ?_⟩; try simp only [Act.put, List.setIfInBounds_toArray, List.set_cons_zero, List.set_cons_succ, List.getElem_toArray, List.getElem_cons_zero, List.getElem_cons_succ]))
              refine bodyPost_ret (results_pf2 (b := w.heap.size) rfl rfl rfl (rangeAt_all HALL.out) HRL.out) rfl (REnd.yes ?_ ⟨_, rfl, ?_, K5.setCells (.inr (Nat.le_refl _)) 0 R⟩)
              · rw [← HSS.out, ← HBS.out, ← HM.out]
                have := HNA.out; have := HSL.out; omega
              · have ek : k = onesOf bs := hkm.trans HM.out
                rw [← HSS.out, ← HBS.out, ← ek]
                have hls : 32 * k ≤ s.length := by have := HNA.out; have := HSL.out; omega
                refine ⟨(.slice av n cv), .slice a9 k c9, by rw [HRR9.out]; rfl, ?_, ?_, HBL.out, chunksOf_len hls⟩
                · exact (ownB_bytes (ownsRow_keep HVV.out.1 (fun j hj => by
                  obtain ⟨v1, v2⟩ := HVV.out.2 j hj
                  rw [heap_setCells_other _ _ _ (by omega), hk5a.block j (by omega) (by simp), HKR.out.block j (by omega) (by simp; omega)]
                  exact HKT3.out.block j v2 (by simp; omega))))
                · have h := HOWN.out
                  refine ownS_sums (l := chunksOf s k) ?_
                  have el : (chunksOf s k).length = k := by simp [chunksOf]
                  unfold OwnS
                  rw [el]
                  refine ownsRow_keep (ownsRow_base h) (fun j hj => ?_)
                  have hj2 := hov j hj
                  rw [heap_setCells_other _ _ _ (by omega)]
                  exact hk5a.block j hj2.2 (by simp)
            · have g10 : ((k : Int) != (m : Int)) = true := by simp; omega
              refine' wpAnyH_take (i := 11) (v := _) rfl (by kernel_rfl) (by kernel_rfl) (by kernel_rfl) (fun _ _ _ h => h) (Or.inl ⟨by rfl, ?_⟩) (by assumption) ?_
              rotate_left 1
              · (intro w0 hSw; (try dsimp only at hSw); go_split_ands; go_simp; (try with_reducible rfl))
              try simp only [Act.put, List.setIfInBounds_toArray, List.set_cons_zero, List.set_cons_succ, List.getElem_toArray, List.getElem_cons_zero, List.getElem_cons_succ]
              refine' wpAnyH_take (i := 12) (v := _) rfl (by kernel_rfl) (by kernel_rfl) (by kernel_rfl) (fun _ _ _ h => h) (Or.inl ⟨by rfl, ?_⟩) (by assumption) ?_
              rotate_left 1
              · (intro w0 hSw; (try dsimp only at hSw); go_split_ands; go_simp; (try with_reducible rfl))
              try simp only [Act.put, List.setIfInBounds_toArray, List.set_cons_zero, List.set_cons_succ, List.getElem_toArray, List.getElem_cons_zero, List.getElem_cons_succ]
              refine wpAnyH_done (by kernel_rfl) ?_ _
              have hst := run_store_pf hz5 HZL.out HZL.out HZ1.out
              have hall := store_all (cs := Z) hz5 rfl
              have HST := Lib.hid hst
              have HALL := Lib.hid hall
              clear hst hall
              go_wp2_with (first | (refine wl_build rfl 30 #[] #[] rfl (by simp [Act.eval]) ?_; refine ⟨_, _, HBZ.out _, ?_⟩; try simp only [Act.put, List.setIfInBounds_toArray, List.set_cons_zero, List.set_cons_succ, List.getElem_toArray, List.getElem_cons_zero, List.getElem_cons_succ]) | (refine wl_store rfl 30 (.tmp 2) (.tmp 117) rfl ?_; refine ⟨_, HST.out, ?_⟩; try simp only [Act.put, List.setIfInBounds_toArray, List.set_cons_zero, List.set_cons_succ, List.getElem_toArray, List.getElem_cons_zero, List.getElem_cons_succ]))
              refine bodyPost_ret (results_pf2 (b := w.heap.size) rfl rfl rfl (rangeAt_all HALL.out) HZL.out) rfl (REnd.no (by rw [← HSS.out, ← HBS.out, ← HM.out]; have := HNA.out; have := HSL.out; omega) ⟨_, rfl, ⟨_, _, by rw [HZ.out], BytesAt_nil _, .inl ⟨rfl, none, 0, rfl, by simp [maxLen]⟩, by simp [pf0, zero32], by simp [pf0]⟩, (K5).setCells (.inr (Nat.le_refl _)) 0 _⟩)
          · have g9 : ((((A : Int) + 32) + 32 * (k : Int)) != (N : Int)) = true := by simp; omega
            go_wp2_with fail
            refine wp_region_held_drew (S := (fun w' => Keeps [] wr w')) (by kernel_rfl) ?_ (fun hHeld => ?_)
            · exact (Keeps.refl _ _).drew
            refine' wpAnyH_take (i := 0) (v := _) rfl (by kernel_rfl) (by kernel_rfl) (by kernel_rfl) (fun _ _ _ h => h) (Or.inl ⟨by rfl, ?_⟩) (by assumption) ?_
            rotate_left 1
            · (intro w0 hSw; (try dsimp only at hSw); go_split_ands; go_simp; (try with_reducible rfl))
            try simp only [Act.put, List.setIfInBounds_toArray, List.set_cons_zero, List.set_cons_succ, List.getElem_toArray, List.getElem_cons_zero, List.getElem_cons_succ]
            refine' wpAnyH_take (i := 1) (v := _) rfl (by kernel_rfl) (by kernel_rfl) (by kernel_rfl) (fun _ _ _ h => h) (Or.inl ⟨by rfl, ?_⟩) (by assumption) ?_
            rotate_left 1
            · (intro w0 hSw; (try dsimp only at hSw); go_split_ands; go_simp; (try with_reducible rfl))
            try simp only [Act.put, List.setIfInBounds_toArray, List.set_cons_zero, List.set_cons_succ, List.getElem_toArray, List.getElem_cons_zero, List.getElem_cons_succ]
            refine' wpAnyH_take (i := 2) (v := _) rfl (by kernel_rfl) (by kernel_rfl) (by kernel_rfl) (fun _ _ _ h => h) (Or.inl ⟨by rfl, ?_⟩) (by assumption) ?_
            rotate_left 1
            · (intro w0 hSw; (try dsimp only at hSw); go_split_ands; go_simp; (try with_reducible rfl))
            try simp only [Act.put, List.setIfInBounds_toArray, List.set_cons_zero, List.set_cons_succ, List.getElem_toArray, List.getElem_cons_zero, List.getElem_cons_succ]
            refine' wpAnyH_take (i := 3) (v := _) rfl (by kernel_rfl) (by kernel_rfl) (by kernel_rfl) (fun _ _ _ h => h) (Or.inl ⟨by rfl, ?_⟩) (by assumption) ?_
            rotate_left 1
            · (intro w0 hSw; (try dsimp only at hSw); go_split_ands; go_simp; (try with_reducible rfl))
            try simp only [Act.put, List.setIfInBounds_toArray, List.set_cons_zero, List.set_cons_succ, List.getElem_toArray, List.getElem_cons_zero, List.getElem_cons_succ]
            refine' wpAnyH_take (i := 4) (v := _) rfl (by kernel_rfl) (by kernel_rfl) (by kernel_rfl) (fun _ _ _ h => h) (Or.inl ⟨by rfl, ?_⟩) (by assumption) ?_
            rotate_left 1
            · (intro w0 hSw; (try dsimp only at hSw); go_split_ands; go_simp; (try with_reducible rfl))
            try simp only [Act.put, List.setIfInBounds_toArray, List.set_cons_zero, List.set_cons_succ, List.getElem_toArray, List.getElem_cons_zero, List.getElem_cons_succ]
            refine' wpAnyH_take (i := 5) (v := undef) rfl (by kernel_rfl) (by kernel_rfl) (by kernel_rfl) (fun _ _ _ h => h) (Or.inr ⟨by rfl, rfl⟩) (by assumption) ?_
            try simp only [Act.put, List.setIfInBounds_toArray, List.set_cons_zero, List.set_cons_succ, List.getElem_toArray, List.getElem_cons_zero, List.getElem_cons_succ]
            refine' wpAnyH_take (i := 6) (v := undef) rfl (by kernel_rfl) (by kernel_rfl) (by kernel_rfl) (fun _ _ _ h => h) (Or.inr ⟨by rfl, rfl⟩) (by assumption) ?_
            try simp only [Act.put, List.setIfInBounds_toArray, List.set_cons_zero, List.set_cons_succ, List.getElem_toArray, List.getElem_cons_zero, List.getElem_cons_succ]
            refine' wpAnyH_take (i := 7) (v := undef) rfl (by kernel_rfl) (by kernel_rfl) (by kernel_rfl) (fun _ _ _ h => h) (Or.inr ⟨by rfl, rfl⟩) (by assumption) ?_
            try simp only [Act.put, List.setIfInBounds_toArray, List.set_cons_zero, List.set_cons_succ, List.getElem_toArray, List.getElem_cons_zero, List.getElem_cons_succ]
            refine' wpAnyH_take (i := 8) (v := undef) rfl (by kernel_rfl) (by kernel_rfl) (by kernel_rfl) (fun _ _ _ h => h) (Or.inr ⟨by rfl, rfl⟩) (by assumption) ?_
            try simp only [Act.put, List.setIfInBounds_toArray, List.set_cons_zero, List.set_cons_succ, List.getElem_toArray, List.getElem_cons_zero, List.getElem_cons_succ]
            refine' wpAnyH_take (i := 9) (v := undef) rfl (by kernel_rfl) (by kernel_rfl) (by kernel_rfl) (fun _ _ _ h => h) (Or.inr ⟨by rfl, rfl⟩) (by assumption) ?_
            try simp only [Act.put, List.setIfInBounds_toArray, List.set_cons_zero, List.set_cons_succ, List.getElem_toArray, List.getElem_cons_zero, List.getElem_cons_succ]
            refine' wpAnyH_take (i := 10) (v := undef) rfl (by kernel_rfl) (by kernel_rfl) (by kernel_rfl) (fun _ _ _ h => h) (Or.inr ⟨by rfl, rfl⟩) (by assumption) ?_
            try simp only [Act.put, List.setIfInBounds_toArray, List.set_cons_zero, List.set_cons_succ, List.getElem_toArray, List.getElem_cons_zero, List.getElem_cons_succ]
            refine' wpAnyH_take (i := 11) (v := undef) rfl (by kernel_rfl) (by kernel_rfl) (by kernel_rfl) (fun _ _ _ h => h) (Or.inr ⟨by rfl, rfl⟩) (by assumption) ?_
            try simp only [Act.put, List.setIfInBounds_toArray, List.set_cons_zero, List.set_cons_succ, List.getElem_toArray, List.getElem_cons_zero, List.getElem_cons_succ]
            refine' wpAnyH_take (i := 12) (v := _) rfl (by kernel_rfl) (by kernel_rfl) (by kernel_rfl) (fun _ _ _ h => h) (Or.inl ⟨by rfl, ?_⟩) (by assumption) ?_
            rotate_left 1
            · (intro w0 hSw; (try dsimp only at hSw); go_split_ands; go_simp; (try with_reducible rfl))
            try simp only [Act.put, List.setIfInBounds_toArray, List.set_cons_zero, List.set_cons_succ, List.getElem_toArray, List.getElem_cons_zero, List.getElem_cons_succ]
            refine wpAnyH_done (by kernel_rfl) ?_ _
            have hzw : wr.drew.heap[w.heap.size]? = some (.cells Z.toArray 30 (0, 0)) := HZR.out
            have hst := run_store_pf hzw HZL.out HZL.out HZ1.out
            have hall := store_all (cs := Z) hzw rfl
            have HST := Lib.hid hst
            have HALL := Lib.hid hall
            clear hst hall
            go_wp2_with (first | (refine wl_build rfl 30 #[] #[] rfl (by simp [Act.eval]) ?_; refine ⟨_, _, HBZ.out _, ?_⟩; try simp only [Act.put, List.setIfInBounds_toArray, List.set_cons_zero, List.set_cons_succ, List.getElem_toArray, List.getElem_cons_zero, List.getElem_cons_succ]) | (refine wl_store rfl 30 (.tmp 2) (.tmp 117) rfl ?_; refine ⟨_, HST.out, ?_⟩; try simp only [Act.put, List.setIfInBounds_toArray, List.set_cons_zero, List.set_cons_succ, List.getElem_toArray, List.getElem_cons_zero, List.getElem_cons_succ]))
            refine bodyPost_ret (results_pf2 (b := w.heap.size) rfl rfl rfl (rangeAt_all HALL.out) HZL.out) rfl (REnd.no (by rw [← HSS.out, ← HBS.out]; have := HNA.out; have := HSL.out; omega) ⟨_, rfl, ⟨_, _, by rw [HZ.out], BytesAt_nil _, .inl ⟨rfl, none, 0, rfl, by simp [maxLen]⟩, by simp [pf0, zero32], by simp [pf0]⟩, (KR.drew).setCells (.inr (Nat.le_refl _)) 0 _⟩)
set_option maxRecDepth 100000 in
set_option maxHeartbeats 3200000 in
theorem refdec_one_short {w : World} {v : Value} {l : List UInt8} (hv : BytesAt w v l) {x y : UInt8} {t : List UInt8} (hl : l = 1 :: x :: y :: t) {n : Nat} (hn : n = x.toNat + 256 * y.toNat) (hb : n ≤ 128) (hs : n ≤ t.length) (h32 : (t.drop n).length < 32) :
    Calls Try.prog 25 #[v] w fun e w' => ∃ u, e = .returned (.tuple #[u, .int .i64 120]) ∧ PfIn w' u pf0 ∧ Keeps [] w w' := by
  subst hl
  have HM := Lib.hid hn
  clear hn
  obtain ⟨t2, ht2⟩ : ∃ t2, t2 = t.drop n := ⟨_, rfl⟩
  rw [← ht2] at h32
  have ht2l : t2.length + n = t.length := by rw [ht2, List.length_drop]; omega
  have HT2 := Lib.hid ht2
  clear ht2
  obtain ⟨a, c, rfl, hc, hm⟩ := hv.form
  obtain ⟨Z, hZ⟩ : ∃ Z, Z = (pfCells pf0 (.slice none 0 0) (.slice none 0 0)) := ⟨_, rfl⟩
  have hal := fun (w : World) => run_alloc (P := Try.prog) w info_proof
  rw [zProof_cells, show (⟨false, [], List.replicate 32 0, []⟩ : Pf) = pf0 from rfl, ← hZ] at hal
  obtain ⟨w0, hw0⟩ : ∃ w0, w0 = (w.alloc (.cells Z.toArray 30 (0, 0))).alloc (.cells Z.toArray 30 (0, 0)) := ⟨_, rfl⟩
  have x0 : w0.heap[w.heap.size]? = some (.cells Z.toArray 30 (0, 0)) := by rw [hw0, heap_old_at (by simp), heap_new_at rfl]
  have x1 : w0.heap[w.heap.size + 1]? = some (.cells Z.toArray 30 (0, 0)) := by rw [hw0, heap_new_at (by simp)]
  have K0 : Keeps [] w w0 := by rw [hw0]; exact ((Keeps.refl _ _).alloc _).alloc _
  have s1 : (w.alloc (.cells Z.toArray 30 (0, 0))).heap.size = w.heap.size + 1 := by simp
  have hzl : Z.length = 35 := by rw [hZ]; exact pf_length (by simp [pf0, zero32]) _ _
  have hz1 : ∀ v ∈ Z, v.oneCell' = true := by rw [hZ]; exact pf_ones
  have hbz := run_build_zero
  rw [← hZ] at hbz
  unfold maxLen at hm
  have HBZ := Lib.hid hbz
  have HZ := Lib.hid hZ
  have HAL := Lib.hid hal
  have HW := Lib.hid hw0
  have S1 := Lib.hid s1
  have X0 := Lib.hid x0
  have X1 := Lib.hid x1
  have HZL := Lib.hid hzl
  have HZ1 := Lib.hid hz1
  have y0 := lt_of_heap x0
  have y1 := lt_of_heap x1
  have HV := Lib.hid hv
  clear hZ hal hw0 s1 x1 hv hzl hz1 hbz x0
  obtain ⟨g, o, rfl, hg, hr⟩ := HV.out.at (by simp)
  have c0 := range_byte (w' := w0) hr (K0.block g hg (by simp)) (k := 0) rfl
  have c1 := range_byte (w' := w0) hr (K0.block g hg (by simp)) (k := 1) rfl
  have c2 := range_byte (w' := w0) hr (K0.block g hg (by simp)) (k := 2) rfl
  rw [Nat.add_zero] at c0
  have c0' : w0.cell? ⟨g, o, none⟩ = some (.int .u8 1) := c0
  have hx8 := x.toNat_lt
  have hy8 := y.toNat_lt
  obtain ⟨N, hN⟩ : ∃ N, N = (1 :: x :: y :: t : List UInt8).length := ⟨_, rfl⟩
  have N3 : N = 3 + t.length := by rw [hN]; simp; omega
  rw [← hN] at hc ⊢
  have g3 : (3 : Int) ≤ (N : Int) := by omega
  have n0 : 0 < N := by omega
  have n1 : (1 : Int) < (N : Int) := by omega
  have n2 : (2 : Int) < (N : Int) := by omega
  have HNL := Lib.hid N3
  have HNN := Lib.hid hN
  have HR := Lib.hid hr
  clear c0 hN N3 hr
  by_cases hc3 : c = 3
  · have hc3' : (c = 3) = True := by simp [hc3]
    have HC3 := Lib.hid hc3
    clear hc3
    go_enter Try.func25, Try.ntmps25
    go_upto_region 2 with (refine wl_alloc rfl 30 rfl ?_; refine ⟨_, _, HAL.out _, ?_⟩; try simp only [Act.put, List.setIfInBounds_toArray, List.set_cons_zero, List.set_cons_succ, List.getElem_toArray, List.getElem_cons_zero, List.getElem_cons_succ])
    rw [S1.out, ← HW.out]
    go_upto_region 4 with fail
    have hw1 : IntKind.i64.wrap (x.toNat : Int) = (x.toNat : Int) := IntWalk.i64_in _ (by omega)
    have hw2 : IntKind.i64.wrap (y.toNat : Int) = (y.toNat : Int) := IntWalk.i64_in _ (by omega)
    have hw3 : IntKind.i64.wrap (256 * (y.toNat : Int)) = 256 * (y.toNat : Int) := IntWalk.i64_in _ (by omega)
    have hw4 : IntKind.i64.wrap ((x.toNat : Int) + 256 * (y.toNat : Int)) = (n : Int) := by
      rw [IntWalk.i64_in _ (by omega), HM.out]
      omega
    refine wp_region_held_drew (S := (fun w' => (w'.cell? ⟨g, o + 1, none⟩ = some (.int .u8 x.toNat) ∧ w'.cell? ⟨g, o + 2, none⟩ = some (.int .u8 y.toNat)) ∧ Keeps [] w0 w')) (by kernel_rfl) ?_ (fun hHeld => ?_)
    · exact ⟨⟨c1, c2⟩, (Keeps.refl _ _).drew⟩
    refine' wpAnyH_take (i := 0) (v := _) rfl (by kernel_rfl) (by kernel_rfl) (by kernel_rfl) (fun _ _ _ h => h) (Or.inl ⟨by rfl, ?_⟩) (by assumption) ?_
    rotate_left 1
    · (intro w0 hSw; (try dsimp only at hSw); go_split_ands; go_simp; (try with_reducible rfl))
    try simp only [Act.put, List.setIfInBounds_toArray, List.set_cons_zero, List.set_cons_succ, List.getElem_toArray, List.getElem_cons_zero, List.getElem_cons_succ]
    refine' wpAnyH_take (i := 1) (v := _) rfl (by kernel_rfl) (by kernel_rfl) (by kernel_rfl) (fun _ _ _ h => h) (Or.inl ⟨by rfl, ?_⟩) (by assumption) ?_
    rotate_left 1
    · (intro w0 hSw; (try dsimp only at hSw); go_split_ands; go_simp; (try with_reducible rfl))
    try simp only [Act.put, List.setIfInBounds_toArray, List.set_cons_zero, List.set_cons_succ, List.getElem_toArray, List.getElem_cons_zero, List.getElem_cons_succ]
    refine' wpAnyH_take (i := 2) (v := _) rfl (by kernel_rfl) (by kernel_rfl) (by kernel_rfl) (fun _ _ _ h => h) (Or.inl ⟨by rfl, ?_⟩) (by assumption) ?_
    rotate_left 1
    · (intro w0 hSw; (try dsimp only at hSw); go_split_ands; go_simp; (try with_reducible rfl))
    try simp only [Act.put, List.setIfInBounds_toArray, List.set_cons_zero, List.set_cons_succ, List.getElem_toArray, List.getElem_cons_zero, List.getElem_cons_succ]
    refine' wpAnyH_take (i := 3) (v := _) rfl (by kernel_rfl) (by kernel_rfl) (by kernel_rfl) (fun _ _ _ h => h) (Or.inl ⟨by rfl, ?_⟩) (by assumption) ?_
    rotate_left 1
    · (intro w0 hSw; (try dsimp only at hSw); go_split_ands; go_simp; (try with_reducible rfl))
    try simp only [Act.put, List.setIfInBounds_toArray, List.set_cons_zero, List.set_cons_succ, List.getElem_toArray, List.getElem_cons_zero, List.getElem_cons_succ]
    refine' wpAnyH_take (i := 4) (v := _) rfl (by kernel_rfl) (by kernel_rfl) (by kernel_rfl) (fun _ _ _ h => h) (Or.inl ⟨by rfl, ?_⟩) (by assumption) ?_
    rotate_left 1
    · (intro w0 hSw; (try dsimp only at hSw); go_split_ands; go_simp; (try with_reducible rfl))
    try simp only [Act.put, List.setIfInBounds_toArray, List.set_cons_zero, List.set_cons_succ, List.getElem_toArray, List.getElem_cons_zero, List.getElem_cons_succ]
    refine' wpAnyH_take (i := 5) (v := _) rfl (by kernel_rfl) (by kernel_rfl) (by kernel_rfl) (fun _ _ _ h => h) (Or.inl ⟨by rfl, ?_⟩) (by assumption) ?_
    rotate_left 1
    · (intro w0 hSw; (try dsimp only at hSw); go_split_ands; go_simp; (try with_reducible rfl))
    try simp only [Act.put, List.setIfInBounds_toArray, List.set_cons_zero, List.set_cons_succ, List.getElem_toArray, List.getElem_cons_zero, List.getElem_cons_succ]
    refine' wpAnyH_take (i := 6) (v := _) rfl (by kernel_rfl) (by kernel_rfl) (by kernel_rfl) (fun _ _ _ h => h) (Or.inl ⟨by rfl, ?_⟩) (by assumption) ?_
    rotate_left 1
    · (intro w0 hSw; (try dsimp only at hSw); go_split_ands; go_simp; (try with_reducible rfl))
    try simp only [Act.put, List.setIfInBounds_toArray, List.set_cons_zero, List.set_cons_succ, List.getElem_toArray, List.getElem_cons_zero, List.getElem_cons_succ]
    refine' wpAnyH_take (i := 7) (v := _) rfl (by kernel_rfl) (by kernel_rfl) (by kernel_rfl) (fun _ _ _ h => h) (Or.inl ⟨by rfl, ?_⟩) (by assumption) ?_
    rotate_left 1
    · (intro w0 hSw; (try dsimp only at hSw); go_split_ands; go_simp; (try with_reducible rfl))
    try simp only [Act.put, List.setIfInBounds_toArray, List.set_cons_zero, List.set_cons_succ, List.getElem_toArray, List.getElem_cons_zero, List.getElem_cons_succ]
    refine' wpAnyH_take (i := 8) (v := _) rfl (by kernel_rfl) (by kernel_rfl) (by kernel_rfl) (fun _ _ _ h => h) (Or.inl ⟨by rfl, ?_⟩) (by assumption) ?_
    rotate_left 1
    · (intro w0 hSw; (try dsimp only at hSw); go_split_ands; go_simp; (try with_reducible rfl))
    try simp only [Act.put, List.setIfInBounds_toArray, List.set_cons_zero, List.set_cons_succ, List.getElem_toArray, List.getElem_cons_zero, List.getElem_cons_succ]
    refine' wpAnyH_take (i := 9) (v := _) rfl (by kernel_rfl) (by kernel_rfl) (by kernel_rfl) (fun _ _ _ h => h) (Or.inl ⟨by rfl, ?_⟩) (by assumption) ?_
    rotate_left 1
    · (intro w0 hSw; (try dsimp only at hSw); go_split_ands; go_simp; (try with_reducible rfl))
    try simp only [Act.put, List.setIfInBounds_toArray, List.set_cons_zero, List.set_cons_succ, List.getElem_toArray, List.getElem_cons_zero, List.getElem_cons_succ]
    refine' wpAnyH_take (i := 10) (v := _) rfl (by kernel_rfl) (by kernel_rfl) (by kernel_rfl) (fun _ _ _ h => h) (Or.inl ⟨by rfl, ?_⟩) (by assumption) ?_
    rotate_left 1
    · (intro w0 hSw; (try dsimp only at hSw); go_split_ands; go_simp; (try with_reducible rfl))
    try simp only [Act.put, List.setIfInBounds_toArray, List.set_cons_zero, List.set_cons_succ, List.getElem_toArray, List.getElem_cons_zero, List.getElem_cons_succ]
    refine wpAnyH_done (by kernel_rfl) ?_ _
    clear hw1 hw2 hw3 hw4 c1 c2
    obtain ⟨wd, hwd⟩ : ∃ wd, wd = w0.drew := ⟨_, rfl⟩
    rw [← hwd]
    have Kd : Keeps [] w0 wd := by rw [hwd]; exact (Keeps.refl _ _).drew
    have KD := K0.trans (G := []) Kd (by simp)
    have hz := (Kd.block _ y0 (by simp)).trans X0.out
    have hpd := (Kd.block _ y1 (by simp)).trans X1.out
    clear hwd hHeld
    have hc3 := HC3.out
    have g5 : decide ((128 : Int) < (n : Int)) = false := by simp; omega
    have g6 : ¬ (N : Int) < 3 + (n : Int) := by have := HNL.out; omega
    have g6' : 3 + (n : Int) ≤ (N : Int) := by omega
    have g6c : 3 + (n : Int) ≤ (c : Int) := by omega
    have hpd' : wd.heap[w.heap.size + 1]? = some (.cells (pfCells pf0 (.slice none 0 0) (.slice none 0 0)).toArray 30 (0, 0)) := by rw [hpd, HZ.out]
    have hbf3 : BytesAt w (.slice (some ⟨g, o, none⟩) N c) (1 :: x :: y :: t) := HNN.out ▸ HV.out
    obtain ⟨we, hwe⟩ : ∃ we, we = wd.setCell ⟨w.heap.size + 1, 0, none⟩ (.bool true) := ⟨_, rfl⟩
    have hpe : we.heap[w.heap.size + 1]? = some (.cells (pfCells ⟨true, [], zero32, []⟩ (.slice none 0 0) (.slice none 0 0)).toArray 30 (0, 0)) := by
      have h := heap_setCell_same wd (w.heap.size + 1) 0 _ _ (.bool true) hpd'
      rw [pf_set0] at h
      rw [hwe]
      exact h
    have Kde : Keeps [w.heap.size + 1] wd we := by rw [hwe]; exact (Keeps.refl _ _).setCell (.inl (by simp)) _
    have Ke := KD.trans (G := [w.heap.size + 1]) Kde (fun k hk => .inr (by simp at hk; omega))
    obtain ⟨e00, _, _⟩ := pf_cells hpd' (by simp [pf0, zero32])
    have e0f := frozen_of_row wd (w.heap.size + 1) 0 _ _ hpd'
    have hlpd := lt_of_heap hpd'
    have hbk := bytes_back (n := 3) (by rw [← HNN.out]; exact hbf3) (by rw [← HNN.out]; omega) (by simp only [maxLen]; omega)
    have htn : (t.take n).length = n := by rw [List.length_take]; omega
    have HWE := Lib.hid hwe
    have HPE := Lib.hid hpe
    have HKE := Lib.hid Ke
    have HTN := Lib.hid htn
    have hze := (Kde.block w.heap.size (lt_of_heap hz) (by simp)).trans hz
    have HZE := Lib.hid hze
    have hbk2 : BytesAt w (.slice (some ⟨g, o, none⟩) n (c - 3)) (t.take n) := by
      have hn0 : n = 0 := by have := HNL.out; omega
      rw [hn0]
      exact .inl ⟨rfl, _, _, rfl, by simp only [maxLen]; omega⟩
    have hbe := hbk2.keeps HKE.out (by simp)
    rw [show (Value.slice (some ⟨g, o, none⟩) n (c - 3)) = .slice (some ⟨g, o, none⟩) n (c - 3) from rfl] at hbe
    have cB := refBytes_any hbe (by rw [htn]; omega)
    have CB := Lib.hid cB
    clear hc3 hbk hbk2 hbe cB hwe hpe Ke htn hze hpd hpd' hz Kde hbf3
    go_upto_region 8 with fail
    rw [← HWE.out]
    go_wp2_with fail
    refine CB.out.mono ?_
    rintro e wf ⟨vv, rfl, hO, hfr, hkf⟩
    obtain ⟨av, cv, rfl⟩ := ownB_slice hO
    rw [HTN.out] at hO hfr ⊢
    have hpf := (hkf.block _ (lt_of_heap HPE.out) (by simp)).trans HPE.out
    have hzf := (hkf.block _ (lt_of_heap HZE.out) (by simp)).trans HZE.out
    obtain ⟨_, e11, _⟩ := pf_cells hpf (by simp [zero32])
    have e1f := frozen_of_row wf (w.heap.size + 1) 1 _ _ hpf
    have hlpf := lt_of_heap hpf
    have Kf := HKE.out.trans (G := []) hkf (by simp)
    obtain ⟨wt, hwt⟩ : ∃ wt, wt = wf.setCell ⟨w.heap.size + 1, 1, none⟩ (.slice av n cv) := ⟨_, rfl⟩
    have hpt : wt.heap[w.heap.size + 1]? = some (.cells (pfCells ⟨true, t.take n, zero32, []⟩ (.slice av n cv) (.slice none 0 0)).toArray 30 (0, 0)) := by
      have h := heap_setCell_same wf (w.heap.size + 1) 1 _ _ (.slice av n cv) hpf
      rw [pf_set1 _ _ _ _ (t.take n)] at h
      rw [hwt]
      exact h
    have Kft : Keeps [w.heap.size + 1] wf wt := by rw [hwt]; exact (Keeps.refl _ _).setCell (.inl (by simp)) _
    have KT := Kf.trans (G := [w.heap.size + 1]) Kft (fun k hk => .inr (by simp at hk; omega))
    have hzt := (Kft.block w.heap.size (lt_of_heap hzf) (by simp)).trans hzf
    have hsE := HKE.out.size
    have hlE := lt_of_heap HPE.out
    have hvv : OwnB wt (.slice av n cv) (t.take n) ∧ ∀ j, (Value.slice av n cv).ownBlock = some j → w.heap.size + 1 < j ∧ j < wt.heap.size := by
      have key : ∀ j, (Value.slice av n cv).ownBlock = some j → w.heap.size + 1 < j := fun j hj => by have := hfr j hj; omega
      refine ⟨ownsRow_keep hO (fun j hj => Kft.block j (World.ownsRow.lt hO j hj).2 (by have := key j hj; simp; omega)), fun j hj => ⟨key j hj, Nat.lt_of_lt_of_le (World.ownsRow.lt hO j hj).2 Kft.size⟩⟩
    have HVV := Lib.hid hvv
    have HWT := Lib.hid hwt
    have HZT := Lib.hid hzt
    clear hwt hvv hpf hzf hO hfr Kft Kf hkf hzt
    go_upto_region 12 with fail
    rw [← HWT.out]
    clear e11 e1f
    obtain ⟨A, hA⟩ : ∃ A : Nat, A = 3 + n := ⟨_, rfl⟩
    rw [show (3 + (n : Int)) = (A : Int) from by omega]
    have hA131 : A ≤ 131 := by omega
    have hna : N = A + t2.length := by have := HNL.out; omega
    have hat : ∀ i b, t2[i]? = some b → (1 :: x :: y :: t : List UInt8)[A + i]? = some b := fun i b h => by
      rw [HT2.out, List.getElem?_drop] at h
      rw [hA, show 3 + n + i = (n + i) + 1 + 1 + 1 from by omega, List.getElem?_cons_succ, List.getElem?_cons_succ, List.getElem?_cons_succ]
      exact h
    obtain ⟨l0, hl0⟩ : ∃ l0 : List UInt8, l0 = 1 :: x :: y :: t := ⟨_, rfl⟩
    rw [← hl0] at hat HR
    have HNA := Lib.hid hna
    have HAT := Lib.hid hat
    have HA := Lib.hid hA
    clear hna hat hl0 hA g5 g6 g6' g6c
    have g7 : (N : Int) < (A : Int) + 32 := by have := HNA.out; omega
    have hst := run_store_pf HZT.out HZL.out HZL.out HZ1.out
    have hall := store_all (cs := Z) HZT.out rfl
    have HST := Lib.hid hst
    have HALL := Lib.hid hall
    clear hst hall
    go_wp2_with (first | (refine wl_build rfl 30 #[] #[] rfl (by simp [Act.eval]) ?_; refine ⟨_, _, HBZ.out _, ?_⟩; try simp only [Act.put, List.setIfInBounds_toArray, List.set_cons_zero, List.set_cons_succ, List.getElem_toArray, List.getElem_cons_zero, List.getElem_cons_succ]) | (refine wl_store rfl 30 (.tmp 2) (.tmp 63) rfl ?_; refine ⟨_, HST.out, ?_⟩; try simp only [Act.put, List.setIfInBounds_toArray, List.set_cons_zero, List.set_cons_succ, List.getElem_toArray, List.getElem_cons_zero, List.getElem_cons_succ]))
    refine bodyPost_ret (results_pf2 (b := w.heap.size) rfl rfl rfl (rangeAt_all HALL.out) HZL.out) rfl ⟨_, rfl, ⟨_, _, by rw [HZ.out], BytesAt_nil _, .inl ⟨rfl, none, 0, rfl, by simp [maxLen]⟩, by simp [pf0, zero32], by simp [pf0]⟩, (KT).setCells (.inr (Nat.le_refl _)) 0 _⟩
  · skip
    go_enter Try.func25, Try.ntmps25
    go_upto_region 2 with (refine wl_alloc rfl 30 rfl ?_; refine ⟨_, _, HAL.out _, ?_⟩; try simp only [Act.put, List.setIfInBounds_toArray, List.set_cons_zero, List.set_cons_succ, List.getElem_toArray, List.getElem_cons_zero, List.getElem_cons_succ])
    rw [S1.out, ← HW.out]
    go_upto_region 4 with fail
    have hw1 : IntKind.i64.wrap (x.toNat : Int) = (x.toNat : Int) := IntWalk.i64_in _ (by omega)
    have hw2 : IntKind.i64.wrap (y.toNat : Int) = (y.toNat : Int) := IntWalk.i64_in _ (by omega)
    have hw3 : IntKind.i64.wrap (256 * (y.toNat : Int)) = 256 * (y.toNat : Int) := IntWalk.i64_in _ (by omega)
    have hw4 : IntKind.i64.wrap ((x.toNat : Int) + 256 * (y.toNat : Int)) = (n : Int) := by
      rw [IntWalk.i64_in _ (by omega), HM.out]
      omega
    refine wp_region_held_drew (S := (fun w' => (w'.cell? ⟨g, o + 1, none⟩ = some (.int .u8 x.toNat) ∧ w'.cell? ⟨g, o + 2, none⟩ = some (.int .u8 y.toNat)) ∧ Keeps [] w0 w')) (by kernel_rfl) ?_ (fun hHeld => ?_)
    · exact ⟨⟨c1, c2⟩, (Keeps.refl _ _).drew⟩
    refine' wpAnyH_take (i := 0) (v := _) rfl (by kernel_rfl) (by kernel_rfl) (by kernel_rfl) (fun _ _ _ h => h) (Or.inl ⟨by rfl, ?_⟩) (by assumption) ?_
    rotate_left 1
    · (intro w0 hSw; (try dsimp only at hSw); go_split_ands; go_simp; (try with_reducible rfl))
    try simp only [Act.put, List.setIfInBounds_toArray, List.set_cons_zero, List.set_cons_succ, List.getElem_toArray, List.getElem_cons_zero, List.getElem_cons_succ]
    refine' wpAnyH_take (i := 1) (v := _) rfl (by kernel_rfl) (by kernel_rfl) (by kernel_rfl) (fun _ _ _ h => h) (Or.inl ⟨by rfl, ?_⟩) (by assumption) ?_
    rotate_left 1
    · (intro w0 hSw; (try dsimp only at hSw); go_split_ands; go_simp; (try with_reducible rfl))
    try simp only [Act.put, List.setIfInBounds_toArray, List.set_cons_zero, List.set_cons_succ, List.getElem_toArray, List.getElem_cons_zero, List.getElem_cons_succ]
    refine' wpAnyH_take (i := 2) (v := _) rfl (by kernel_rfl) (by kernel_rfl) (by kernel_rfl) (fun _ _ _ h => h) (Or.inl ⟨by rfl, ?_⟩) (by assumption) ?_
    rotate_left 1
    · (intro w0 hSw; (try dsimp only at hSw); go_split_ands; go_simp; (try with_reducible rfl))
    try simp only [Act.put, List.setIfInBounds_toArray, List.set_cons_zero, List.set_cons_succ, List.getElem_toArray, List.getElem_cons_zero, List.getElem_cons_succ]
    refine' wpAnyH_take (i := 3) (v := _) rfl (by kernel_rfl) (by kernel_rfl) (by kernel_rfl) (fun _ _ _ h => h) (Or.inl ⟨by rfl, ?_⟩) (by assumption) ?_
    rotate_left 1
    · (intro w0 hSw; (try dsimp only at hSw); go_split_ands; go_simp; (try with_reducible rfl))
    try simp only [Act.put, List.setIfInBounds_toArray, List.set_cons_zero, List.set_cons_succ, List.getElem_toArray, List.getElem_cons_zero, List.getElem_cons_succ]
    refine' wpAnyH_take (i := 4) (v := _) rfl (by kernel_rfl) (by kernel_rfl) (by kernel_rfl) (fun _ _ _ h => h) (Or.inl ⟨by rfl, ?_⟩) (by assumption) ?_
    rotate_left 1
    · (intro w0 hSw; (try dsimp only at hSw); go_split_ands; go_simp; (try with_reducible rfl))
    try simp only [Act.put, List.setIfInBounds_toArray, List.set_cons_zero, List.set_cons_succ, List.getElem_toArray, List.getElem_cons_zero, List.getElem_cons_succ]
    refine' wpAnyH_take (i := 5) (v := _) rfl (by kernel_rfl) (by kernel_rfl) (by kernel_rfl) (fun _ _ _ h => h) (Or.inl ⟨by rfl, ?_⟩) (by assumption) ?_
    rotate_left 1
    · (intro w0 hSw; (try dsimp only at hSw); go_split_ands; go_simp; (try with_reducible rfl))
    try simp only [Act.put, List.setIfInBounds_toArray, List.set_cons_zero, List.set_cons_succ, List.getElem_toArray, List.getElem_cons_zero, List.getElem_cons_succ]
    refine' wpAnyH_take (i := 6) (v := _) rfl (by kernel_rfl) (by kernel_rfl) (by kernel_rfl) (fun _ _ _ h => h) (Or.inl ⟨by rfl, ?_⟩) (by assumption) ?_
    rotate_left 1
    · (intro w0 hSw; (try dsimp only at hSw); go_split_ands; go_simp; (try with_reducible rfl))
    try simp only [Act.put, List.setIfInBounds_toArray, List.set_cons_zero, List.set_cons_succ, List.getElem_toArray, List.getElem_cons_zero, List.getElem_cons_succ]
    refine' wpAnyH_take (i := 7) (v := _) rfl (by kernel_rfl) (by kernel_rfl) (by kernel_rfl) (fun _ _ _ h => h) (Or.inl ⟨by rfl, ?_⟩) (by assumption) ?_
    rotate_left 1
    · (intro w0 hSw; (try dsimp only at hSw); go_split_ands; go_simp; (try with_reducible rfl))
    try simp only [Act.put, List.setIfInBounds_toArray, List.set_cons_zero, List.set_cons_succ, List.getElem_toArray, List.getElem_cons_zero, List.getElem_cons_succ]
    refine' wpAnyH_take (i := 8) (v := _) rfl (by kernel_rfl) (by kernel_rfl) (by kernel_rfl) (fun _ _ _ h => h) (Or.inl ⟨by rfl, ?_⟩) (by assumption) ?_
    rotate_left 1
    · (intro w0 hSw; (try dsimp only at hSw); go_split_ands; go_simp; (try with_reducible rfl))
    try simp only [Act.put, List.setIfInBounds_toArray, List.set_cons_zero, List.set_cons_succ, List.getElem_toArray, List.getElem_cons_zero, List.getElem_cons_succ]
    refine' wpAnyH_take (i := 9) (v := _) rfl (by kernel_rfl) (by kernel_rfl) (by kernel_rfl) (fun _ _ _ h => h) (Or.inl ⟨by rfl, ?_⟩) (by assumption) ?_
    rotate_left 1
    · (intro w0 hSw; (try dsimp only at hSw); go_split_ands; go_simp; (try with_reducible rfl))
    try simp only [Act.put, List.setIfInBounds_toArray, List.set_cons_zero, List.set_cons_succ, List.getElem_toArray, List.getElem_cons_zero, List.getElem_cons_succ]
    refine' wpAnyH_take (i := 10) (v := _) rfl (by kernel_rfl) (by kernel_rfl) (by kernel_rfl) (fun _ _ _ h => h) (Or.inl ⟨by rfl, ?_⟩) (by assumption) ?_
    rotate_left 1
    · (intro w0 hSw; (try dsimp only at hSw); go_split_ands; go_simp; (try with_reducible rfl))
    try simp only [Act.put, List.setIfInBounds_toArray, List.set_cons_zero, List.set_cons_succ, List.getElem_toArray, List.getElem_cons_zero, List.getElem_cons_succ]
    refine wpAnyH_done (by kernel_rfl) ?_ _
    clear hw1 hw2 hw3 hw4 c1 c2
    obtain ⟨wd, hwd⟩ : ∃ wd, wd = w0.drew := ⟨_, rfl⟩
    rw [← hwd]
    have Kd : Keeps [] w0 wd := by rw [hwd]; exact (Keeps.refl _ _).drew
    have KD := K0.trans (G := []) Kd (by simp)
    have hz := (Kd.block _ y0 (by simp)).trans X0.out
    have hpd := (Kd.block _ y1 (by simp)).trans X1.out
    clear hwd hHeld
    have g5 : decide ((128 : Int) < (n : Int)) = false := by simp; omega
    have g6 : ¬ (N : Int) < 3 + (n : Int) := by have := HNL.out; omega
    have g6' : 3 + (n : Int) ≤ (N : Int) := by omega
    have g6c : 3 + (n : Int) ≤ (c : Int) := by omega
    have hpd' : wd.heap[w.heap.size + 1]? = some (.cells (pfCells pf0 (.slice none 0 0) (.slice none 0 0)).toArray 30 (0, 0)) := by rw [hpd, HZ.out]
    have hbf3 : BytesAt w (.slice (some ⟨g, o, none⟩) N c) (1 :: x :: y :: t) := HNN.out ▸ HV.out
    obtain ⟨we, hwe⟩ : ∃ we, we = wd.setCell ⟨w.heap.size + 1, 0, none⟩ (.bool true) := ⟨_, rfl⟩
    have hpe : we.heap[w.heap.size + 1]? = some (.cells (pfCells ⟨true, [], zero32, []⟩ (.slice none 0 0) (.slice none 0 0)).toArray 30 (0, 0)) := by
      have h := heap_setCell_same wd (w.heap.size + 1) 0 _ _ (.bool true) hpd'
      rw [pf_set0] at h
      rw [hwe]
      exact h
    have Kde : Keeps [w.heap.size + 1] wd we := by rw [hwe]; exact (Keeps.refl _ _).setCell (.inl (by simp)) _
    have Ke := KD.trans (G := [w.heap.size + 1]) Kde (fun k hk => .inr (by simp at hk; omega))
    obtain ⟨e00, _, _⟩ := pf_cells hpd' (by simp [pf0, zero32])
    have e0f := frozen_of_row wd (w.heap.size + 1) 0 _ _ hpd'
    have hlpd := lt_of_heap hpd'
    have hbk := bytes_back (n := 3) (by rw [← HNN.out]; exact hbf3) (by rw [← HNN.out]; omega) (by simp only [maxLen]; omega)
    have htn : (t.take n).length = n := by rw [List.length_take]; omega
    have HWE := Lib.hid hwe
    have HPE := Lib.hid hpe
    have HKE := Lib.hid Ke
    have HTN := Lib.hid htn
    have hze := (Kde.block w.heap.size (lt_of_heap hz) (by simp)).trans hz
    have HZE := Lib.hid hze
    have hbk2 : BytesAt w (.slice (some ⟨g, o + 3, none⟩) n (c - 3)) (t.take n) := by
      have es : ∀ M : Nat, sliced (some ⟨g, o, none⟩) 3 M c 1 = .slice (some ⟨g, o + 3, none⟩) (M - 3) (c - 3) := fun M => by
        unfold sliced
        rw [if_neg (by omega)]
        simp [Addr.add_mid]
      rw [es] at hbk
      have hl3 : (1 :: x :: y :: t : List UInt8).length - 3 = ((1 :: x :: y :: t : List UInt8).drop 3).length := by rw [List.length_drop]
      rw [hl3] at hbk
      exact bytes_front2 hbk hs
    have hbe := hbk2.keeps HKE.out (by simp)
    rw [show (Value.slice (some ⟨g, o + 3, none⟩) n (c - 3)) = .slice (some ⟨g, o + 3, none⟩) n (c - 3) from rfl] at hbe
    have cB := refBytes_any hbe (by rw [htn]; omega)
    have CB := Lib.hid cB
    clear hbk hbk2 hbe cB hwe hpe Ke htn hze hpd hpd' hz Kde hbf3
    go_upto_region 8 with fail
    rw [← HWE.out]
    go_wp2_with fail
    refine CB.out.mono ?_
    rintro e wf ⟨vv, rfl, hO, hfr, hkf⟩
    obtain ⟨av, cv, rfl⟩ := ownB_slice hO
    rw [HTN.out] at hO hfr ⊢
    have hpf := (hkf.block _ (lt_of_heap HPE.out) (by simp)).trans HPE.out
    have hzf := (hkf.block _ (lt_of_heap HZE.out) (by simp)).trans HZE.out
    obtain ⟨_, e11, _⟩ := pf_cells hpf (by simp [zero32])
    have e1f := frozen_of_row wf (w.heap.size + 1) 1 _ _ hpf
    have hlpf := lt_of_heap hpf
    have Kf := HKE.out.trans (G := []) hkf (by simp)
    obtain ⟨wt, hwt⟩ : ∃ wt, wt = wf.setCell ⟨w.heap.size + 1, 1, none⟩ (.slice av n cv) := ⟨_, rfl⟩
    have hpt : wt.heap[w.heap.size + 1]? = some (.cells (pfCells ⟨true, t.take n, zero32, []⟩ (.slice av n cv) (.slice none 0 0)).toArray 30 (0, 0)) := by
      have h := heap_setCell_same wf (w.heap.size + 1) 1 _ _ (.slice av n cv) hpf
      rw [pf_set1 _ _ _ _ (t.take n)] at h
      rw [hwt]
      exact h
    have Kft : Keeps [w.heap.size + 1] wf wt := by rw [hwt]; exact (Keeps.refl _ _).setCell (.inl (by simp)) _
    have KT := Kf.trans (G := [w.heap.size + 1]) Kft (fun k hk => .inr (by simp at hk; omega))
    have hzt := (Kft.block w.heap.size (lt_of_heap hzf) (by simp)).trans hzf
    have hsE := HKE.out.size
    have hlE := lt_of_heap HPE.out
    have hvv : OwnB wt (.slice av n cv) (t.take n) ∧ ∀ j, (Value.slice av n cv).ownBlock = some j → w.heap.size + 1 < j ∧ j < wt.heap.size := by
      have key : ∀ j, (Value.slice av n cv).ownBlock = some j → w.heap.size + 1 < j := fun j hj => by have := hfr j hj; omega
      refine ⟨ownsRow_keep hO (fun j hj => Kft.block j (World.ownsRow.lt hO j hj).2 (by have := key j hj; simp; omega)), fun j hj => ⟨key j hj, Nat.lt_of_lt_of_le (World.ownsRow.lt hO j hj).2 Kft.size⟩⟩
    have HVV := Lib.hid hvv
    have HWT := Lib.hid hwt
    have HZT := Lib.hid hzt
    clear hwt hvv hpf hzf hO hfr Kft Kf hkf hzt
    go_upto_region 12 with fail
    rw [← HWT.out]
    clear e11 e1f
    obtain ⟨A, hA⟩ : ∃ A : Nat, A = 3 + n := ⟨_, rfl⟩
    rw [show (3 + (n : Int)) = (A : Int) from by omega]
    have hA131 : A ≤ 131 := by omega
    have hna : N = A + t2.length := by have := HNL.out; omega
    have hat : ∀ i b, t2[i]? = some b → (1 :: x :: y :: t : List UInt8)[A + i]? = some b := fun i b h => by
      rw [HT2.out, List.getElem?_drop] at h
      rw [hA, show 3 + n + i = (n + i) + 1 + 1 + 1 from by omega, List.getElem?_cons_succ, List.getElem?_cons_succ, List.getElem?_cons_succ]
      exact h
    obtain ⟨l0, hl0⟩ : ∃ l0 : List UInt8, l0 = 1 :: x :: y :: t := ⟨_, rfl⟩
    rw [← hl0] at hat HR
    have HNA := Lib.hid hna
    have HAT := Lib.hid hat
    have HA := Lib.hid hA
    clear hna hat hl0 hA g5 g6 g6' g6c
    have g7 : (N : Int) < (A : Int) + 32 := by have := HNA.out; omega
    have hst := run_store_pf HZT.out HZL.out HZL.out HZ1.out
    have hall := store_all (cs := Z) HZT.out rfl
    have HST := Lib.hid hst
    have HALL := Lib.hid hall
    clear hst hall
    go_wp2_with (first | (refine wl_build rfl 30 #[] #[] rfl (by simp [Act.eval]) ?_; refine ⟨_, _, HBZ.out _, ?_⟩; try simp only [Act.put, List.setIfInBounds_toArray, List.set_cons_zero, List.set_cons_succ, List.getElem_toArray, List.getElem_cons_zero, List.getElem_cons_succ]) | (refine wl_store rfl 30 (.tmp 2) (.tmp 63) rfl ?_; refine ⟨_, HST.out, ?_⟩; try simp only [Act.put, List.setIfInBounds_toArray, List.set_cons_zero, List.set_cons_succ, List.getElem_toArray, List.getElem_cons_zero, List.getElem_cons_succ]))
    refine bodyPost_ret (results_pf2 (b := w.heap.size) rfl rfl rfl (rangeAt_all HALL.out) HZL.out) rfl ⟨_, rfl, ⟨_, _, by rw [HZ.out], BytesAt_nil _, .inl ⟨rfl, none, 0, rfl, by simp [maxLen]⟩, by simp [pf0, zero32], by simp [pf0]⟩, (KT).setCells (.inr (Nat.le_refl _)) 0 _⟩
end Go.Proofs.Ytnobhfpjchofpaa
