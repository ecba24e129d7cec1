/-
  Lemmas of a claim, bundle H: XFrF XFrG XCaD.
-/
import Derived.Test.YtojlojdkhegbkaaDoorRfF
import Derived.Test.YtojlojdkhegbkaaDoorRfG
/-
  Package frame: newer, Choose.
-/
namespace Go.Proofs.YtojlojdkhegbkaaDoor
set_option linter.unusedVariables false
set_option linter.unusedSimpArgs false
open Go.RowKit

theorem eq_super (s t : Sup) (w : World) : (Op.equalIn 10000 47 (supV s) (supV t)).run Tryd.prog w = .ok (decide (s = t)) w := by
  obtain ⟨a1, a2, a3, a4, a5⟩ := s
  obtain ⟨b1, b2, b3, b4, b5⟩ := t
  unfold supV
  have hu := Tryd.underlying3
  go_simp
  by_cases h1 : a1 = b1 <;> by_cases h2 : a2 = b2 <;> by_cases h3 : a3 = b3 <;> by_cases h4 : a4 = b4 <;> by_cases h5 : a5 = b5 <;> simp [h1, h2, h3, h4, h5]
theorem eqGuard_super (op : BinOp) (x y : Operand) (xs ys : Array Value) (w : World) : (eqGuard op 47 x y (.agg xs) (.agg ys)).run Tryd.prog w = .ok () w := run_eqGuard_agg w op 47 x y xs ys (by kernel_rfl)
theorem run_neq_super (x y : Operand) (s t : Sup) (w : World) : (do eqGuard .neq 47 x y (supV s) (supV t); binOp .neq 47 (supV s) (supV t)).run Tryd.prog w = .ok (.bool (!decide (s = t))) w := by
  rw [Sem.run_bind, show (eqGuard .neq 47 x y (supV s) (supV t)).run Tryd.prog w = .ok () w from eqGuard_super _ _ _ _ _ _, Result.andThen_ok]
  have h := run_neq_struct (P := Tryd.prog) w 47 (supC s).toArray (supC t).toArray
  have e := eq_super s t w
  rw [supV_eq, supV_eq] at e ⊢
  rw [h, e]
  rfl
def Sup.inGen (s : Sup) : Prop := 0 ≤ s.gen ∧ s.gen ≤ 1099511627776
set_option maxRecDepth 100000 in
set_option maxHeartbeats 1600000 in
theorem newer_any {w : World} {a b : Sup} (ha : a.inGen) (hb : b.inGen) :
    Calls Tryd.prog 72 #[supV a, supV b] w fun e w' => e = .returned (.tuple #[supV (newerL a b).2, .int .i64 (newerL a b).1]) ∧ Keeps [] w w' := by
  obtain ⟨R, hR⟩ : ∃ R, R = newerL a b := ⟨_, rfl⟩
  rw [← hR]
  unfold newerL at hR
  show Calls Tryd.prog 72 #[.agg #[.int .i64 a.width, .int .i64 a.gen, .int .i64 a.mark, .int .i64 a.head, .int .i64 a.pages], .agg #[.int .i64 b.width, .int .i64 b.gen, .int .i64 b.mark, .int .i64 b.head, .int .i64 b.pages]] w _
  obtain ⟨w1, hw1⟩ : ∃ w1, w1 = ((w.alloc (.cells #[.int .i64 a.width, .int .i64 a.gen, .int .i64 a.mark, .int .i64 a.head, .int .i64 a.pages] 47 (0, 0))).alloc (.cells #[.int .i64 b.width, .int .i64 b.gen, .int .i64 b.mark, .int .i64 b.head, .int .i64 b.pages] 47 (0, 0))).alloc (.cells #[.int .i64 0, .int .i64 0, .int .i64 0, .int .i64 0, .int .i64 0] 47 (0, 0)) := ⟨_, rfl⟩
  obtain ⟨g, hg⟩ : ∃ g, g = w.heap.size := ⟨_, rfl⟩
  obtain ⟨g1, hg1⟩ : ∃ g, g = w.heap.size + 1 := ⟨_, rfl⟩
  obtain ⟨g2, hg2⟩ : ∃ g, g = w.heap.size + 1 + 1 := ⟨_, rfl⟩
  have sa : SupAt w1 g a := by rw [hw1]; exact (heap_old_at (by simp; omega)).trans ((heap_old_at (by simp; omega)).trans (heap_new_at hg))
  have sb : SupAt w1 g1 b := by rw [hw1]; exact (heap_old_at (by simp; omega)).trans (heap_new_at (by simp; omega))
  have sz : SupAt w1 g2 zSup := by rw [hw1]; exact heap_new_at (by simp; omega)
  have hk1 : Keeps [] w w1 := by rw [hw1]; exact (((Keeps.refl _ _).alloc _).alloc _).alloc _
  have hgs : g ≠ g1 ∧ g1 ≠ g2 ∧ g ≠ g2 ∧ w.heap.size ≤ g ∧ w.heap.size ≤ g1 ∧ w.heap.size ≤ g2 := by omega
  obtain ⟨a0, ha1⟩ := ha
  obtain ⟨b0, hb1⟩ := hb
  have A1 := Lib.hid ha1
  have B1 := Lib.hid hb1
  clear ha1 hb1
  have HW := Lib.hid hw1
  have HG := Lib.hid hg
  have HG1 := Lib.hid hg1
  have HG2 := Lib.hid hg2
  have HK := Lib.hid hk1
  have HR := Lib.hid hR
  have HA := Lib.hid sa
  have HB := Lib.hid sb
  have HZ := Lib.hid sz
  have HGS := Lib.hid hgs
  have ca1 := sa.cells.2.1
  have cb1 := sb.cells.2.1
  clear hw1 hg hg1 hg2 hk1 sa sb sz hgs
  by_cases hgood : a.gen % 2 ≠ 0 ∨ b.gen % 2 ≠ 1
  · rw [if_pos hgood] at hR
    have HU := Lib.hid hR
    obtain ⟨st, ss⟩ := HZ.out.store zSup
    have ST := Lib.hid st
    have SS := Lib.hid ss
    have q := hgood
    clear hR st ss hgood HR
    by_cases h0 : a.gen % 2 = 0
    · have h1 : b.gen % 2 = 0 := by omega
      clear q
      go_enter Tryd.func72, Tryd.ntmps72
      go_upto_region 1 with fail
      rw [← HW.out, ← HG2.out, ← HG1.out, ← HG.out]
      go_wp2_with (first | (refine wl_store rfl 47 (.tmp 4) (.tmp 17) rfl ?_; refine ⟨_, ST.out, ?_⟩; try simp only [Act.put, List.setIfInBounds_toArray, List.set_cons_zero, List.set_cons_succ, List.getElem_toArray, List.getElem_cons_zero, List.getElem_cons_succ]))
      exact bodyPost_ret (results_sup2 rfl rfl rfl SS.out) rfl ⟨by rw [HU.out]; rfl, HK.out.setCells (.inr HGS.out.2.2.2.2.2) _ _⟩
    · have h1 : a.gen % 2 = 1 := by omega
      clear q h0
      go_enter Tryd.func72, Tryd.ntmps72
      go_upto_region 1 with fail
      rw [← HW.out, ← HG2.out, ← HG1.out, ← HG.out]
      go_wp2_with (first | (refine wl_store rfl 47 (.tmp 4) (.tmp 17) rfl ?_; refine ⟨_, ST.out, ?_⟩; try simp only [Act.put, List.setIfInBounds_toArray, List.set_cons_zero, List.set_cons_succ, List.getElem_toArray, List.getElem_cons_zero, List.getElem_cons_succ]))
      exact bodyPost_ret (results_sup2 rfl rfl rfl SS.out) rfl ⟨by rw [HU.out]; rfl, HK.out.setCells (.inr HGS.out.2.2.2.2.2) _ _⟩
  rw [if_neg hgood] at hR
  have h0 : a.gen % 2 = 0 := by omega
  have h1 : b.gen % 2 = 1 := by omega
  clear hgood HR
  by_cases hlt : a.gen < b.gen
  · simp only [if_pos hlt] at hR
    have HR := Lib.hid hR
    obtain ⟨st1, ss1⟩ := HA.out.store b
    have hka : Keeps [g] w1 (w1.setCells g 0 (supC b)) := (Keeps.refl _ _).setCells (.inl (by simp)) _ _
    obtain ⟨n1, n2, n3, n4, n5, n6⟩ := HGS.out
    have sb1 := HB.out.keeps hka (by simpa using n1.symm)
    obtain ⟨st2, ss2⟩ := sb1.store a
    have hkb : Keeps [g1] (w1.setCells g 0 (supC b)) ((w1.setCells g 0 (supC b)).setCells g1 0 (supC a)) := (Keeps.refl _ _).setCells (.inl (by simp)) _ _
    have HLA := Lib.hid HA.out.load
    have HLB := Lib.hid HB.out.load
    have ST1 := Lib.hid st1
    have ST2 := Lib.hid st2
    obtain ⟨w4, hw4⟩ : ∃ w4, w4 = (w1.setCells g 0 (supC b)).setCells g1 0 (supC a) := ⟨_, rfl⟩
    have HX4 := Lib.hid (show SupAt w4 g b by rw [hw4]; exact ss1.keeps hkb (by simpa using n1))
    have HY4 := Lib.hid (show SupAt w4 g1 a by rw [hw4]; exact ss2)
    have HZ4 := Lib.hid (show SupAt w4 g2 zSup by rw [hw4]; exact (HZ.out.keeps hka (by simpa using n3.symm)).keeps hkb (by simpa using n2.symm))
    have HK4 := Lib.hid (show Keeps [] w w4 by rw [hw4]; exact (HK.out.setCells (.inr n4) _ _).setCells (.inr n5) _ _)
    have HW4 := Lib.hid hw4
    clear hR st1 ss1 hka sb1 st2 ss2 hkb hw4 n1 n2 n3 n4 n5 n6
    go_enter Tryd.func72, Tryd.ntmps72
    go_upto_region 1 with fail
    rw [← HW.out, ← HG2.out, ← HG1.out, ← HG.out]
    go_upto_region 4 with fail
    clear ca1 cb1
    go_upto_region 5 with (first | (refine wl_load rfl 47 (.tmp 3) rfl ?_; refine ⟨_, _, HLB.out, ?_⟩; try simp only [Act.put, List.setIfInBounds_toArray, List.set_cons_zero, List.set_cons_succ, List.getElem_toArray, List.getElem_cons_zero, List.getElem_cons_succ]) | (refine wl_load rfl 47 (.tmp 2) rfl ?_; refine ⟨_, _, HLA.out, ?_⟩; try simp only [Act.put, List.setIfInBounds_toArray, List.set_cons_zero, List.set_cons_succ, List.getElem_toArray, List.getElem_cons_zero, List.getElem_cons_succ]) | (refine wl_store rfl 47 (.tmp 2) (.tmp 23) rfl ?_; refine ⟨_, ST1.out, ?_⟩; try simp only [Act.put, List.setIfInBounds_toArray, List.set_cons_zero, List.set_cons_succ, List.getElem_toArray, List.getElem_cons_zero, List.getElem_cons_succ]) | (refine wl_store rfl 47 (.tmp 3) (.tmp 24) rfl ?_; refine ⟨_, ST2.out, ?_⟩; try simp only [Act.put, List.setIfInBounds_toArray, List.set_cons_zero, List.set_cons_succ, List.getElem_toArray, List.getElem_cons_zero, List.getElem_cons_succ]))
    rw [← HW4.out]
    clear hlt
    have HLY := Lib.hid HY4.out.load
    obtain ⟨w5, hw5⟩ : ∃ w5, w5 = w4.alloc (.cells (supC a).toArray 47 (0, 0)) := ⟨_, rfl⟩
    obtain ⟨g3, hg3⟩ : ∃ g3, g3 = w4.heap.size := ⟨_, rfl⟩
    have hk45 : Keeps [] w4 w5 := by rw [hw5]; exact (Keeps.refl _ _).alloc _
    have st5 : SupAt w5 g3 a := by rw [hw5]; exact heap_new_at hg3
    have hst5 := run_storeAt_new (P := Tryd.prog) w4 47 #[.int .i64 0, .int .i64 0, .int .i64 0, .int .i64 0, .int .i64 0] (supC a).toArray (by rw [size_super]; rfl) rfl (all_oneCell_toArray (supC_one _))
    have HST5 := Lib.hid hst5
    have HX5 := Lib.hid (HX4.out.keeps hk45 (by simp))
    have HY5 := Lib.hid (HY4.out.keeps hk45 (by simp))
    have HZ5 := Lib.hid (HZ4.out.keeps hk45 (by simp))
    have HK5 := Lib.hid (HK4.out.trans (G := []) hk45 (by simp))
    have HW5 := Lib.hid hw5
    have HG3 := Lib.hid hg3
    have HT5 := Lib.hid st5
    have hne3 : g ≠ g3 ∧ g1 ≠ g3 ∧ g2 ≠ g3 := by
      have l1 := lt_of_heap HX4.out
      have l2 := lt_of_heap HY4.out
      have l3 := lt_of_heap HZ4.out
      omega
    have HG30 := Lib.hid (show w.heap.size ≤ g3 by have := HK4.out.size; omega)
    have HNE := Lib.hid hne3
    obtain ⟨p, hp⟩ : ∃ p : Sup, p = ⟨a.width, a.gen + 1, b.mark, b.head, a.pages⟩ := ⟨_, rfl⟩
    obtain ⟨w6, hw6⟩ : ∃ w6, w6 = (((w5.setCell ⟨g3, 1, none⟩ (.int .i64 (a.gen + 1))).setCell ⟨g3, 2, none⟩ (.int .i64 b.mark)).setCell ⟨g3, 3, none⟩ (.int .i64 b.head)).drew := ⟨_, rfl⟩
    have st6 : SupAt w6 g3 p := by
      have h1 := heap_setCell_same w5 g3 1 _ _ (.int .i64 (a.gen + 1)) st5
      have h2 := heap_setCell_same _ g3 2 _ _ (.int .i64 b.mark) h1
      have h3 := heap_setCell_same _ g3 3 _ _ (.int .i64 b.head) h2
      rw [hw6, hp]
      exact h3
    have hk56 : Keeps [g3] w5 w6 := by rw [hw6]; exact ((((Keeps.refl _ _).setCell (.inl (by simp)) _).setCell (.inl (by simp)) _).setCell (.inl (by simp)) _).drew
    have HX6 := Lib.hid (HX5.out.keeps hk56 (by simpa using hne3.1))
    have HY6 := Lib.hid (HY5.out.keeps hk56 (by simpa using hne3.2.1))
    have HZ6 := Lib.hid (HZ5.out.keeps hk56 (by simpa using hne3.2.2))
    have HK6 := Lib.hid ((HK5.out.trans (G := [g3]) hk56 (fun k hk => .inr (by simp at hk; subst hk; exact HG30.out))))
    have HT6 := Lib.hid st6
    have HW6 := Lib.hid hw6
    have HP := Lib.hid hp
    have hcell : ∀ wx, Keeps [g3] w5 wx → wx.cell? ⟨g1, 1, none⟩ = some (.int .i64 a.gen) ∧ wx.cell? ⟨g, 2, none⟩ = some (.int .i64 b.mark) ∧ wx.cell? ⟨g, 3, none⟩ = some (.int .i64 b.head) := fun wx hk => by
      have hx := HX5.out.keeps hk (by simpa using HNE.out.1)
      have hy := HY5.out.keeps hk (by simpa using HNE.out.2.1)
      exact ⟨hy.cells.2.1, hx.cells.2.2.1, hx.cells.2.2.2.1⟩
    have HC := Lib.hid hcell
    clear hw5 hg3 hk45 st5 hst5 hne3 hp hw6 st6 hk56 hcell
    go_upto_region 6 with (first | (refine wl_load rfl 47 (.tmp 3) rfl ?_; refine ⟨_, _, HLY.out, ?_⟩; try simp only [Act.put, List.setIfInBounds_toArray, List.set_cons_zero, List.set_cons_succ, List.getElem_toArray, List.getElem_cons_zero, List.getElem_cons_succ]) | (refine wl_store rfl 47 (.tmp 6) (.tmp 25) rfl ?_; refine ⟨_, HST5.out, ?_⟩; try simp only [Act.put, List.setIfInBounds_toArray, List.set_cons_zero, List.set_cons_succ, List.getElem_toArray, List.getElem_cons_zero, List.getElem_cons_succ]))
    rw [show w4.alloc (.cells (supC a).toArray 47) = w5 from HW5.out.symm, ← HG3.out]
    have ct1 := HT5.out.cells.2.1
    have ct2 := HT5.out.cells.2.2.1
    have ct3 := HT5.out.cells.2.2.2.1
    have f1 := HT5.out.free 1
    have f2 := HT5.out.free 2
    have f3 := HT5.out.free 3
    have e1 : IntKind.i64.wrap (a.gen + 1) = a.gen + 1 := IntWalk.i64_in _ (by have := A1.out; omega)
    refine wp_region_held_drew (S := (fun w' => w'.cell? ⟨g1, 1, none⟩ = some (.int .i64 a.gen) ∧ w'.cell? ⟨g, 2, none⟩ = some (.int .i64 b.mark) ∧ w'.cell? ⟨g, 3, none⟩ = some (.int .i64 b.head))) (by kernel_rfl) ?_ (fun hHeld => ?_)
    · exact HC.out w5.drew (Keeps.refl _ _).drew
    refine' wpAnyH_take (i := 0) (v := _) rfl (by kernel_rfl) (by kernel_rfl) (by kernel_rfl) (fun _ _ _ h => h) (Or.inl ⟨by rfl, ?_⟩) (by assumption) ?_
    rotate_left 1
    · (intro w0 hSw; (try dsimp only at hSw); go_split_ands; go_simp; (try with_reducible rfl))
    try simp only [Act.put, List.setIfInBounds_toArray, List.set_cons_zero, List.set_cons_succ, List.getElem_toArray, List.getElem_cons_zero, List.getElem_cons_succ]
    refine' wpAnyH_take (i := 1) (v := _) rfl (by kernel_rfl) (by kernel_rfl) (by kernel_rfl) (fun _ _ _ h => h) (Or.inl ⟨by rfl, ?_⟩) (by assumption) ?_
    rotate_left 1
    · (intro w0 hSw; (try dsimp only at hSw); go_split_ands; go_simp; (try with_reducible rfl))
    try simp only [Act.put, List.setIfInBounds_toArray, List.set_cons_zero, List.set_cons_succ, List.getElem_toArray, List.getElem_cons_zero, List.getElem_cons_succ]
    refine' wpAnyH_take (i := 2) (v := _) rfl (by kernel_rfl) (by kernel_rfl) (by kernel_rfl) (fun _ _ _ h => h) (Or.inl ⟨by rfl, ?_⟩) (by assumption) ?_
    rotate_left 1
    · (intro w0 hSw; (try dsimp only at hSw); go_split_ands; go_simp; (try with_reducible rfl))
    try simp only [Act.put, List.setIfInBounds_toArray, List.set_cons_zero, List.set_cons_succ, List.getElem_toArray, List.getElem_cons_zero, List.getElem_cons_succ]
    refine' wpAnyH_take (i := 3) (v := _) rfl (by kernel_rfl) (by kernel_rfl) (by kernel_rfl) (fun _ _ _ h => h) (Or.inl ⟨by rfl, ?_⟩) (by assumption) ?_
    rotate_left 1
    · (intro w0 hSw; (try dsimp only at hSw); go_split_ands; go_simp; (try with_reducible rfl))
    try simp only [Act.put, List.setIfInBounds_toArray, List.set_cons_zero, List.set_cons_succ, List.getElem_toArray, List.getElem_cons_zero, List.getElem_cons_succ]
    refine' wpAnyH_take (i := 4) (v := _) rfl (by kernel_rfl) (by kernel_rfl) (by kernel_rfl) (fun _ _ _ h => h) (Or.inl ⟨by rfl, ?_⟩) (by assumption) ?_
    rotate_left 1
    · (intro w0 hSw; (try dsimp only at hSw); go_split_ands; go_simp; (try with_reducible rfl))
    try simp only [Act.put, List.setIfInBounds_toArray, List.set_cons_zero, List.set_cons_succ, List.getElem_toArray, List.getElem_cons_zero, List.getElem_cons_succ]
    refine' wpAnyH_take (i := 5) (v := _) rfl (by kernel_rfl) (by kernel_rfl) (by kernel_rfl) (fun _ _ _ h => h) (Or.inl ⟨by rfl, ?_⟩) (by assumption) ?_
    rotate_left 1
    · (intro w0 hSw; (try dsimp only at hSw); go_split_ands; go_simp; (try with_reducible rfl))
    try simp only [Act.put, List.setIfInBounds_toArray, List.set_cons_zero, List.set_cons_succ, List.getElem_toArray, List.getElem_cons_zero, List.getElem_cons_succ]
    refine' wpAnyH_take (i := 6) (v := _) rfl (by kernel_rfl) (by kernel_rfl) (by kernel_rfl) (fun _ _ _ h => h) (Or.inl ⟨by rfl, ?_⟩) (by assumption) ?_
    rotate_left 1
    · (intro w0 hSw; (try dsimp only at hSw); go_split_ands; go_simp; (try with_reducible rfl))
    try simp only [Act.put, List.setIfInBounds_toArray, List.set_cons_zero, List.set_cons_succ, List.getElem_toArray, List.getElem_cons_zero, List.getElem_cons_succ]
    refine' wpAnyH_take (i := 7) (v := _) rfl (by kernel_rfl) (by kernel_rfl) (by kernel_rfl) (fun _ _ _ h => h) (Or.inl ⟨by rfl, ?_⟩) (by assumption) ?_
    rotate_left 1
    · (intro w0 hSw; (try dsimp only at hSw); go_split_ands; go_simp; (try with_reducible rfl))
    try simp only [Act.put, List.setIfInBounds_toArray, List.set_cons_zero, List.set_cons_succ, List.getElem_toArray, List.getElem_cons_zero, List.getElem_cons_succ]
    refine wpAnyH_ready (rs := [8]) (by kernel_rfl) (by simp) ?_
    refine AllReadyH.cons rfl (fun K hK => ?_) AllReadyH.nil
    go_simp
    refine hK.out _ _ ?_ (fun hHeld => ?_)
    · exact HC.out _ (((Keeps.refl _ _).setCell (.inl (by simp)) _).drew)
    clear hK K
    try simp only [Act.put, List.setIfInBounds_toArray, List.set_cons_zero, List.set_cons_succ, List.getElem_toArray, List.getElem_cons_zero, List.getElem_cons_succ]
    refine' wpAnyH_take (i := 9) (v := _) rfl (by kernel_rfl) (by kernel_rfl) (by kernel_rfl) (fun _ _ _ h => h) (Or.inl ⟨by rfl, ?_⟩) (by assumption) ?_
    rotate_left 1
    · (intro w0 hSw; (try dsimp only at hSw); go_split_ands; go_simp; (try with_reducible rfl))
    try simp only [Act.put, List.setIfInBounds_toArray, List.set_cons_zero, List.set_cons_succ, List.getElem_toArray, List.getElem_cons_zero, List.getElem_cons_succ]
    refine wpAnyH_ready (rs := [10]) (by kernel_rfl) (by simp) ?_
    refine AllReadyH.cons rfl (fun K hK => ?_) AllReadyH.nil
    go_simp
    refine hK.out _ _ ?_ (fun hHeld => ?_)
    · exact HC.out _ ((((Keeps.refl _ _).setCell (.inl (by simp)) _).setCell (.inl (by simp)) _).drew)
    clear hK K
    try simp only [Act.put, List.setIfInBounds_toArray, List.set_cons_zero, List.set_cons_succ, List.getElem_toArray, List.getElem_cons_zero, List.getElem_cons_succ]
    refine' wpAnyH_take (i := 11) (v := _) rfl (by kernel_rfl) (by kernel_rfl) (by kernel_rfl) (fun _ _ _ h => h) (Or.inl ⟨by rfl, ?_⟩) (by assumption) ?_
    rotate_left 1
    · (intro w0 hSw; (try dsimp only at hSw); go_split_ands; go_simp; (try with_reducible rfl))
    try simp only [Act.put, List.setIfInBounds_toArray, List.set_cons_zero, List.set_cons_succ, List.getElem_toArray, List.getElem_cons_zero, List.getElem_cons_succ]
    refine wpAnyH_ready (rs := [12]) (by kernel_rfl) (by simp) ?_
    refine AllReadyH.cons rfl (fun K hK => ?_) AllReadyH.nil
    go_simp
    refine hK.out _ _ ?_ (fun hHeld => ?_)
    · exact HC.out _ (((((Keeps.refl _ _).setCell (.inl (by simp)) _).setCell (.inl (by simp)) _).setCell (.inl (by simp)) _).drew)
    clear hK K
    try simp only [Act.put, List.setIfInBounds_toArray, List.set_cons_zero, List.set_cons_succ, List.getElem_toArray, List.getElem_cons_zero, List.getElem_cons_succ]
    refine wpAnyH_done (by kernel_rfl) ?_ _
    rw [← HW6.out]
    clear ct1 ct2 ct3 f1 f2 f3 e1 hHeld HC HST5 HLY HW5 HW6 HG3
    have HLT := Lib.hid HT6.out.load
    have HLX := Lib.hid HX6.out.load
    have hq := fun x y w => run_neq_super x y p b w
    have HQ := Lib.hid hq
    clear hq
    have cm1 := HX6.out.cells.2.2.1
    have cm2 := HY6.out.cells.2.2.1
    obtain ⟨stz, ssz⟩ := HZ6.out.store zSup
    obtain ⟨stx, ssx⟩ := HZ6.out.store b
    have STZ := Lib.hid stz
    have SSZ := Lib.hid ssz
    have STX := Lib.hid stx
    have SSX := Lib.hid ssx
    clear stz ssz stx ssx
    have hR6 := HR.out
    rw [← HP.out] at hR6
    clear HR HP
    by_cases hpx : p = b
    rotate_left 1
    · have hd : decide (p = b) = false := by simp [hpx]
      rw [if_pos (.inl hpx)] at hR6
      have HU := Lib.hid hR6
      have HQ2 : ∀ x y w, (do eqGuard .neq 47 x y (supV p) (supV b); binOp .neq 47 (supV p) (supV b)).run Tryd.prog w = .ok (.bool true) w := fun x y w => by rw [HQ.out, hd]; rfl
      have HQ3 := Lib.hid HQ2
      clear hpx hd hR6 HQ2 HQ
      go_wp2_with (first | (refine wl_load rfl 47 (.tmp 6) rfl ?_; refine ⟨_, _, HLT.out, ?_⟩; try simp only [Act.put, List.setIfInBounds_toArray, List.set_cons_zero, List.set_cons_succ, List.getElem_toArray, List.getElem_cons_zero, List.getElem_cons_succ]) | (refine wl_load rfl 47 (.tmp 2) rfl ?_; refine ⟨_, _, HLX.out, ?_⟩; try simp only [Act.put, List.setIfInBounds_toArray, List.set_cons_zero, List.set_cons_succ, List.getElem_toArray, List.getElem_cons_zero, List.getElem_cons_succ]) | (refine wl_binOp rfl .neq 47 (.tmp 36) (.tmp 37) 47 rfl ?_; refine ⟨_, _, HQ3.out _ _ _, ?_⟩; try simp only [Act.put, List.setIfInBounds_toArray, List.set_cons_zero, List.set_cons_succ, List.getElem_toArray, List.getElem_cons_zero, List.getElem_cons_succ]) | (refine wl_store rfl 47 (.tmp 4) (.tmp 46) rfl ?_; refine ⟨_, STZ.out, ?_⟩; try simp only [Act.put, List.setIfInBounds_toArray, List.set_cons_zero, List.set_cons_succ, List.getElem_toArray, List.getElem_cons_zero, List.getElem_cons_succ]))
      exact bodyPost_ret (results_sup2 rfl rfl rfl SSZ.out) rfl ⟨by rw [HU.out]; rfl, HK6.out.setCells (.inr HGS.out.2.2.2.2.2) _ _⟩
    have hd : decide (p = b) = true := by simp [hpx]
    have HQ2 : ∀ x y w, (do eqGuard .neq 47 x y (supV p) (supV b); binOp .neq 47 (supV p) (supV b)).run Tryd.prog w = .ok (.bool false) w := fun x y w => by rw [HQ.out, hd]; rfl
    have HQ3 := Lib.hid HQ2
    by_cases hmk : b.mark < a.mark
    · rw [if_pos (.inr hmk)] at hR6
      have HU := Lib.hid hR6
      clear hpx hd hR6 HQ2 HQ
      go_wp2_with (first | (refine wl_load rfl 47 (.tmp 6) rfl ?_; refine ⟨_, _, HLT.out, ?_⟩; try simp only [Act.put, List.setIfInBounds_toArray, List.set_cons_zero, List.set_cons_succ, List.getElem_toArray, List.getElem_cons_zero, List.getElem_cons_succ]) | (refine wl_load rfl 47 (.tmp 2) rfl ?_; refine ⟨_, _, HLX.out, ?_⟩; try simp only [Act.put, List.setIfInBounds_toArray, List.set_cons_zero, List.set_cons_succ, List.getElem_toArray, List.getElem_cons_zero, List.getElem_cons_succ]) | (refine wl_binOp rfl .neq 47 (.tmp 36) (.tmp 37) 47 rfl ?_; refine ⟨_, _, HQ3.out _ _ _, ?_⟩; try simp only [Act.put, List.setIfInBounds_toArray, List.set_cons_zero, List.set_cons_succ, List.getElem_toArray, List.getElem_cons_zero, List.getElem_cons_succ]) | (refine wl_store rfl 47 (.tmp 4) (.tmp 46) rfl ?_; refine ⟨_, STZ.out, ?_⟩; try simp only [Act.put, List.setIfInBounds_toArray, List.set_cons_zero, List.set_cons_succ, List.getElem_toArray, List.getElem_cons_zero, List.getElem_cons_succ]))
      exact bodyPost_ret (results_sup2 rfl rfl rfl SSZ.out) rfl ⟨by rw [HU.out]; rfl, HK6.out.setCells (.inr HGS.out.2.2.2.2.2) _ _⟩
    · rw [if_neg (by rintro (h | h); exact h hpx; exact hmk h)] at hR6
      have HU := Lib.hid hR6
      clear hpx hd hR6 HQ2 HQ
      go_wp2_with (first | (refine wl_load rfl 47 (.tmp 6) rfl ?_; refine ⟨_, _, HLT.out, ?_⟩; try simp only [Act.put, List.setIfInBounds_toArray, List.set_cons_zero, List.set_cons_succ, List.getElem_toArray, List.getElem_cons_zero, List.getElem_cons_succ]) | (refine wl_load rfl 47 (.tmp 2) rfl ?_; refine ⟨_, _, HLX.out, ?_⟩; try simp only [Act.put, List.setIfInBounds_toArray, List.set_cons_zero, List.set_cons_succ, List.getElem_toArray, List.getElem_cons_zero, List.getElem_cons_succ]) | (refine wl_binOp rfl .neq 47 (.tmp 36) (.tmp 37) 47 rfl ?_; refine ⟨_, _, HQ3.out _ _ _, ?_⟩; try simp only [Act.put, List.setIfInBounds_toArray, List.set_cons_zero, List.set_cons_succ, List.getElem_toArray, List.getElem_cons_zero, List.getElem_cons_succ]) | (refine wl_store rfl 47 (.tmp 4) (.tmp 47) rfl ?_; refine ⟨_, STX.out, ?_⟩; try simp only [Act.put, List.setIfInBounds_toArray, List.set_cons_zero, List.set_cons_succ, List.getElem_toArray, List.getElem_cons_zero, List.getElem_cons_succ]))
      exact bodyPost_ret (results_sup2 rfl rfl rfl SSX.out) rfl ⟨by rw [HU.out]; rfl, HK6.out.setCells (.inr HGS.out.2.2.2.2.2) _ _⟩
  · simp only [if_neg hlt] at hR
    have HR := Lib.hid hR
    have HX4 := HA
    have HY4 := HB
    have HZ4 := HZ
    have HK4 := HK
    obtain ⟨w4, hw4⟩ : ∃ w4, w4 = w1 := ⟨_, rfl⟩
    rw [← hw4] at HX4 HY4 HZ4 HK4 ca1 cb1 HW
    have n4 := HGS.out.2.2.2.1
    clear hR HA HB HZ HK hw4
    go_enter Tryd.func72, Tryd.ntmps72
    go_upto_region 1 with fail
    rw [← HW.out, ← HG2.out, ← HG1.out, ← HG.out]
    go_upto_region 5 with fail
    clear ca1 cb1 hlt n4
    have HLY := Lib.hid HY4.out.load
    obtain ⟨w5, hw5⟩ : ∃ w5, w5 = w4.alloc (.cells (supC b).toArray 47 (0, 0)) := ⟨_, rfl⟩
    obtain ⟨g3, hg3⟩ : ∃ g3, g3 = w4.heap.size := ⟨_, rfl⟩
    have hk45 : Keeps [] w4 w5 := by rw [hw5]; exact (Keeps.refl _ _).alloc _
    have st5 : SupAt w5 g3 b := by rw [hw5]; exact heap_new_at hg3
    have hst5 := run_storeAt_new (P := Tryd.prog) w4 47 #[.int .i64 0, .int .i64 0, .int .i64 0, .int .i64 0, .int .i64 0] (supC b).toArray (by rw [size_super]; rfl) rfl (all_oneCell_toArray (supC_one _))
    have HST5 := Lib.hid hst5
    have HX5 := Lib.hid (HX4.out.keeps hk45 (by simp))
    have HY5 := Lib.hid (HY4.out.keeps hk45 (by simp))
    have HZ5 := Lib.hid (HZ4.out.keeps hk45 (by simp))
    have HK5 := Lib.hid (HK4.out.trans (G := []) hk45 (by simp))
    have HW5 := Lib.hid hw5
    have HG3 := Lib.hid hg3
    have HT5 := Lib.hid st5
    have hne3 : g ≠ g3 ∧ g1 ≠ g3 ∧ g2 ≠ g3 := by
      have l1 := lt_of_heap HX4.out
      have l2 := lt_of_heap HY4.out
      have l3 := lt_of_heap HZ4.out
      omega
    have HG30 := Lib.hid (show w.heap.size ≤ g3 by have := HK4.out.size; omega)
    have HNE := Lib.hid hne3
    obtain ⟨p, hp⟩ : ∃ p : Sup, p = ⟨b.width, b.gen + 1, a.mark, a.head, b.pages⟩ := ⟨_, rfl⟩
    obtain ⟨w6, hw6⟩ : ∃ w6, w6 = (((w5.setCell ⟨g3, 1, none⟩ (.int .i64 (b.gen + 1))).setCell ⟨g3, 2, none⟩ (.int .i64 a.mark)).setCell ⟨g3, 3, none⟩ (.int .i64 a.head)).drew := ⟨_, rfl⟩
    have st6 : SupAt w6 g3 p := by
      have h1 := heap_setCell_same w5 g3 1 _ _ (.int .i64 (b.gen + 1)) st5
      have h2 := heap_setCell_same _ g3 2 _ _ (.int .i64 a.mark) h1
      have h3 := heap_setCell_same _ g3 3 _ _ (.int .i64 a.head) h2
      rw [hw6, hp]
      exact h3
    have hk56 : Keeps [g3] w5 w6 := by rw [hw6]; exact ((((Keeps.refl _ _).setCell (.inl (by simp)) _).setCell (.inl (by simp)) _).setCell (.inl (by simp)) _).drew
    have HX6 := Lib.hid (HX5.out.keeps hk56 (by simpa using hne3.1))
    have HY6 := Lib.hid (HY5.out.keeps hk56 (by simpa using hne3.2.1))
    have HZ6 := Lib.hid (HZ5.out.keeps hk56 (by simpa using hne3.2.2))
    have HK6 := Lib.hid ((HK5.out.trans (G := [g3]) hk56 (fun k hk => .inr (by simp at hk; subst hk; exact HG30.out))))
    have HT6 := Lib.hid st6
    have HW6 := Lib.hid hw6
    have HP := Lib.hid hp
    have hcell : ∀ wx, Keeps [g3] w5 wx → wx.cell? ⟨g1, 1, none⟩ = some (.int .i64 b.gen) ∧ wx.cell? ⟨g, 2, none⟩ = some (.int .i64 a.mark) ∧ wx.cell? ⟨g, 3, none⟩ = some (.int .i64 a.head) := fun wx hk => by
      have hx := HX5.out.keeps hk (by simpa using HNE.out.1)
      have hy := HY5.out.keeps hk (by simpa using HNE.out.2.1)
      exact ⟨hy.cells.2.1, hx.cells.2.2.1, hx.cells.2.2.2.1⟩
    have HC := Lib.hid hcell
    clear hw5 hg3 hk45 st5 hst5 hne3 hp hw6 st6 hk56 hcell
    go_upto_region 6 with (first | (refine wl_load rfl 47 (.tmp 3) rfl ?_; refine ⟨_, _, HLY.out, ?_⟩; try simp only [Act.put, List.setIfInBounds_toArray, List.set_cons_zero, List.set_cons_succ, List.getElem_toArray, List.getElem_cons_zero, List.getElem_cons_succ]) | (refine wl_store rfl 47 (.tmp 6) (.tmp 25) rfl ?_; refine ⟨_, HST5.out, ?_⟩; try simp only [Act.put, List.setIfInBounds_toArray, List.set_cons_zero, List.set_cons_succ, List.getElem_toArray, List.getElem_cons_zero, List.getElem_cons_succ]))
    rw [show w4.alloc (.cells (supC b).toArray 47) = w5 from HW5.out.symm, ← HG3.out]
    have ct1 := HT5.out.cells.2.1
    have ct2 := HT5.out.cells.2.2.1
    have ct3 := HT5.out.cells.2.2.2.1
    have f1 := HT5.out.free 1
    have f2 := HT5.out.free 2
    have f3 := HT5.out.free 3
    have e1 : IntKind.i64.wrap (b.gen + 1) = b.gen + 1 := IntWalk.i64_in _ (by have := B1.out; omega)
    refine wp_region_held_drew (S := (fun w' => w'.cell? ⟨g1, 1, none⟩ = some (.int .i64 b.gen) ∧ w'.cell? ⟨g, 2, none⟩ = some (.int .i64 a.mark) ∧ w'.cell? ⟨g, 3, none⟩ = some (.int .i64 a.head))) (by kernel_rfl) ?_ (fun hHeld => ?_)
    · exact HC.out w5.drew (Keeps.refl _ _).drew
    refine' wpAnyH_take (i := 0) (v := _) rfl (by kernel_rfl) (by kernel_rfl) (by kernel_rfl) (fun _ _ _ h => h) (Or.inl ⟨by rfl, ?_⟩) (by assumption) ?_
    rotate_left 1
    · (intro w0 hSw; (try dsimp only at hSw); go_split_ands; go_simp; (try with_reducible rfl))
    try simp only [Act.put, List.setIfInBounds_toArray, List.set_cons_zero, List.set_cons_succ, List.getElem_toArray, List.getElem_cons_zero, List.getElem_cons_succ]
    refine' wpAnyH_take (i := 1) (v := _) rfl (by kernel_rfl) (by kernel_rfl) (by kernel_rfl) (fun _ _ _ h => h) (Or.inl ⟨by rfl, ?_⟩) (by assumption) ?_
    rotate_left 1
    · (intro w0 hSw; (try dsimp only at hSw); go_split_ands; go_simp; (try with_reducible rfl))
    try simp only [Act.put, List.setIfInBounds_toArray, List.set_cons_zero, List.set_cons_succ, List.getElem_toArray, List.getElem_cons_zero, List.getElem_cons_succ]
    refine' wpAnyH_take (i := 2) (v := _) rfl (by kernel_rfl) (by kernel_rfl) (by kernel_rfl) (fun _ _ _ h => h) (Or.inl ⟨by rfl, ?_⟩) (by assumption) ?_
    rotate_left 1
    · (intro w0 hSw; (try dsimp only at hSw); go_split_ands; go_simp; (try with_reducible rfl))
    try simp only [Act.put, List.setIfInBounds_toArray, List.set_cons_zero, List.set_cons_succ, List.getElem_toArray, List.getElem_cons_zero, List.getElem_cons_succ]
    refine' wpAnyH_take (i := 3) (v := _) rfl (by kernel_rfl) (by kernel_rfl) (by kernel_rfl) (fun _ _ _ h => h) (Or.inl ⟨by rfl, ?_⟩) (by assumption) ?_
    rotate_left 1
    · (intro w0 hSw; (try dsimp only at hSw); go_split_ands; go_simp; (try with_reducible rfl))
    try simp only [Act.put, List.setIfInBounds_toArray, List.set_cons_zero, List.set_cons_succ, List.getElem_toArray, List.getElem_cons_zero, List.getElem_cons_succ]
    refine' wpAnyH_take (i := 4) (v := _) rfl (by kernel_rfl) (by kernel_rfl) (by kernel_rfl) (fun _ _ _ h => h) (Or.inl ⟨by rfl, ?_⟩) (by assumption) ?_
    rotate_left 1
    · (intro w0 hSw; (try dsimp only at hSw); go_split_ands; go_simp; (try with_reducible rfl))
    try simp only [Act.put, List.setIfInBounds_toArray, List.set_cons_zero, List.set_cons_succ, List.getElem_toArray, List.getElem_cons_zero, List.getElem_cons_succ]
    refine' wpAnyH_take (i := 5) (v := _) rfl (by kernel_rfl) (by kernel_rfl) (by kernel_rfl) (fun _ _ _ h => h) (Or.inl ⟨by rfl, ?_⟩) (by assumption) ?_
    rotate_left 1
    · (intro w0 hSw; (try dsimp only at hSw); go_split_ands; go_simp; (try with_reducible rfl))
    try simp only [Act.put, List.setIfInBounds_toArray, List.set_cons_zero, List.set_cons_succ, List.getElem_toArray, List.getElem_cons_zero, List.getElem_cons_succ]
    refine' wpAnyH_take (i := 6) (v := _) rfl (by kernel_rfl) (by kernel_rfl) (by kernel_rfl) (fun _ _ _ h => h) (Or.inl ⟨by rfl, ?_⟩) (by assumption) ?_
    rotate_left 1
    · (intro w0 hSw; (try dsimp only at hSw); go_split_ands; go_simp; (try with_reducible rfl))
    try simp only [Act.put, List.setIfInBounds_toArray, List.set_cons_zero, List.set_cons_succ, List.getElem_toArray, List.getElem_cons_zero, List.getElem_cons_succ]
    refine' wpAnyH_take (i := 7) (v := _) rfl (by kernel_rfl) (by kernel_rfl) (by kernel_rfl) (fun _ _ _ h => h) (Or.inl ⟨by rfl, ?_⟩) (by assumption) ?_
    rotate_left 1
    · (intro w0 hSw; (try dsimp only at hSw); go_split_ands; go_simp; (try with_reducible rfl))
    try simp only [Act.put, List.setIfInBounds_toArray, List.set_cons_zero, List.set_cons_succ, List.getElem_toArray, List.getElem_cons_zero, List.getElem_cons_succ]
    refine wpAnyH_ready (rs := [8]) (by kernel_rfl) (by simp) ?_
    refine AllReadyH.cons rfl (fun K hK => ?_) AllReadyH.nil
    go_simp
    refine hK.out _ _ ?_ (fun hHeld => ?_)
    · exact HC.out _ (((Keeps.refl _ _).setCell (.inl (by simp)) _).drew)
    clear hK K
    try simp only [Act.put, List.setIfInBounds_toArray, List.set_cons_zero, List.set_cons_succ, List.getElem_toArray, List.getElem_cons_zero, List.getElem_cons_succ]
    refine' wpAnyH_take (i := 9) (v := _) rfl (by kernel_rfl) (by kernel_rfl) (by kernel_rfl) (fun _ _ _ h => h) (Or.inl ⟨by rfl, ?_⟩) (by assumption) ?_
    rotate_left 1
    · (intro w0 hSw; (try dsimp only at hSw); go_split_ands; go_simp; (try with_reducible rfl))
    try simp only [Act.put, List.setIfInBounds_toArray, List.set_cons_zero, List.set_cons_succ, List.getElem_toArray, List.getElem_cons_zero, List.getElem_cons_succ]
    refine wpAnyH_ready (rs := [10]) (by kernel_rfl) (by simp) ?_
    refine AllReadyH.cons rfl (fun K hK => ?_) AllReadyH.nil
    go_simp
    refine hK.out _ _ ?_ (fun hHeld => ?_)
    · exact HC.out _ ((((Keeps.refl _ _).setCell (.inl (by simp)) _).setCell (.inl (by simp)) _).drew)
    clear hK K
    try simp only [Act.put, List.setIfInBounds_toArray, List.set_cons_zero, List.set_cons_succ, List.getElem_toArray, List.getElem_cons_zero, List.getElem_cons_succ]
    refine' wpAnyH_take (i := 11) (v := _) rfl (by kernel_rfl) (by kernel_rfl) (by kernel_rfl) (fun _ _ _ h => h) (Or.inl ⟨by rfl, ?_⟩) (by assumption) ?_
    rotate_left 1
    · (intro w0 hSw; (try dsimp only at hSw); go_split_ands; go_simp; (try with_reducible rfl))
    try simp only [Act.put, List.setIfInBounds_toArray, List.set_cons_zero, List.set_cons_succ, List.getElem_toArray, List.getElem_cons_zero, List.getElem_cons_succ]
    refine wpAnyH_ready (rs := [12]) (by kernel_rfl) (by simp) ?_
    refine AllReadyH.cons rfl (fun K hK => ?_) AllReadyH.nil
    go_simp
    refine hK.out _ _ ?_ (fun hHeld => ?_)
    · exact HC.out _ (((((Keeps.refl _ _).setCell (.inl (by simp)) _).setCell (.inl (by simp)) _).setCell (.inl (by simp)) _).drew)
    clear hK K
    try simp only [Act.put, List.setIfInBounds_toArray, List.set_cons_zero, List.set_cons_succ, List.getElem_toArray, List.getElem_cons_zero, List.getElem_cons_succ]
    refine wpAnyH_done (by kernel_rfl) ?_ _
    rw [← HW6.out]
    clear ct1 ct2 ct3 f1 f2 f3 e1 hHeld HC HST5 HLY HW5 HW6 HG3
    have HLT := Lib.hid HT6.out.load
    have HLX := Lib.hid HX6.out.load
    have hq := fun x y w => run_neq_super x y p a w
    have HQ := Lib.hid hq
    clear hq
    have cm1 := HX6.out.cells.2.2.1
    have cm2 := HY6.out.cells.2.2.1
    obtain ⟨stz, ssz⟩ := HZ6.out.store zSup
    obtain ⟨stx, ssx⟩ := HZ6.out.store a
    have STZ := Lib.hid stz
    have SSZ := Lib.hid ssz
    have STX := Lib.hid stx
    have SSX := Lib.hid ssx
    clear stz ssz stx ssx
    have hR6 := HR.out
    rw [← HP.out] at hR6
    clear HR HP
    by_cases hpx : p = a
    rotate_left 1
    · have hd : decide (p = a) = false := by simp [hpx]
      rw [if_pos (.inl hpx)] at hR6
      have HU := Lib.hid hR6
      have HQ2 : ∀ x y w, (do eqGuard .neq 47 x y (supV p) (supV a); binOp .neq 47 (supV p) (supV a)).run Tryd.prog w = .ok (.bool true) w := fun x y w => by rw [HQ.out, hd]; rfl
      have HQ3 := Lib.hid HQ2
      clear hpx hd hR6 HQ2 HQ
      go_wp2_with (first | (refine wl_load rfl 47 (.tmp 6) rfl ?_; refine ⟨_, _, HLT.out, ?_⟩; try simp only [Act.put, List.setIfInBounds_toArray, List.set_cons_zero, List.set_cons_succ, List.getElem_toArray, List.getElem_cons_zero, List.getElem_cons_succ]) | (refine wl_load rfl 47 (.tmp 2) rfl ?_; refine ⟨_, _, HLX.out, ?_⟩; try simp only [Act.put, List.setIfInBounds_toArray, List.set_cons_zero, List.set_cons_succ, List.getElem_toArray, List.getElem_cons_zero, List.getElem_cons_succ]) | (refine wl_binOp rfl .neq 47 (.tmp 36) (.tmp 37) 47 rfl ?_; refine ⟨_, _, HQ3.out _ _ _, ?_⟩; try simp only [Act.put, List.setIfInBounds_toArray, List.set_cons_zero, List.set_cons_succ, List.getElem_toArray, List.getElem_cons_zero, List.getElem_cons_succ]) | (refine wl_store rfl 47 (.tmp 4) (.tmp 46) rfl ?_; refine ⟨_, STZ.out, ?_⟩; try simp only [Act.put, List.setIfInBounds_toArray, List.set_cons_zero, List.set_cons_succ, List.getElem_toArray, List.getElem_cons_zero, List.getElem_cons_succ]))
      exact bodyPost_ret (results_sup2 rfl rfl rfl SSZ.out) rfl ⟨by rw [HU.out]; rfl, HK6.out.setCells (.inr HGS.out.2.2.2.2.2) _ _⟩
    have hd : decide (p = a) = true := by simp [hpx]
    have HQ2 : ∀ x y w, (do eqGuard .neq 47 x y (supV p) (supV a); binOp .neq 47 (supV p) (supV a)).run Tryd.prog w = .ok (.bool false) w := fun x y w => by rw [HQ.out, hd]; rfl
    have HQ3 := Lib.hid HQ2
    by_cases hmk : a.mark < b.mark
    · rw [if_pos (.inr hmk)] at hR6
      have HU := Lib.hid hR6
      clear hpx hd hR6 HQ2 HQ
      go_wp2_with (first | (refine wl_load rfl 47 (.tmp 6) rfl ?_; refine ⟨_, _, HLT.out, ?_⟩; try simp only [Act.put, List.setIfInBounds_toArray, List.set_cons_zero, List.set_cons_succ, List.getElem_toArray, List.getElem_cons_zero, List.getElem_cons_succ]) | (refine wl_load rfl 47 (.tmp 2) rfl ?_; refine ⟨_, _, HLX.out, ?_⟩; try simp only [Act.put, List.setIfInBounds_toArray, List.set_cons_zero, List.set_cons_succ, List.getElem_toArray, List.getElem_cons_zero, List.getElem_cons_succ]) | (refine wl_binOp rfl .neq 47 (.tmp 36) (.tmp 37) 47 rfl ?_; refine ⟨_, _, HQ3.out _ _ _, ?_⟩; try simp only [Act.put, List.setIfInBounds_toArray, List.set_cons_zero, List.set_cons_succ, List.getElem_toArray, List.getElem_cons_zero, List.getElem_cons_succ]) | (refine wl_store rfl 47 (.tmp 4) (.tmp 46) rfl ?_; refine ⟨_, STZ.out, ?_⟩; try simp only [Act.put, List.setIfInBounds_toArray, List.set_cons_zero, List.set_cons_succ, List.getElem_toArray, List.getElem_cons_zero, List.getElem_cons_succ]))
      exact bodyPost_ret (results_sup2 rfl rfl rfl SSZ.out) rfl ⟨by rw [HU.out]; rfl, HK6.out.setCells (.inr HGS.out.2.2.2.2.2) _ _⟩
    · rw [if_neg (by rintro (h | h); exact h hpx; exact hmk h)] at hR6
      have HU := Lib.hid hR6
      clear hpx hd hR6 HQ2 HQ
      go_wp2_with (first | (refine wl_load rfl 47 (.tmp 6) rfl ?_; refine ⟨_, _, HLT.out, ?_⟩; try simp only [Act.put, List.setIfInBounds_toArray, List.set_cons_zero, List.set_cons_succ, List.getElem_toArray, List.getElem_cons_zero, List.getElem_cons_succ]) | (refine wl_load rfl 47 (.tmp 2) rfl ?_; refine ⟨_, _, HLX.out, ?_⟩; try simp only [Act.put, List.setIfInBounds_toArray, List.set_cons_zero, List.set_cons_succ, List.getElem_toArray, List.getElem_cons_zero, List.getElem_cons_succ]) | (refine wl_binOp rfl .neq 47 (.tmp 36) (.tmp 37) 47 rfl ?_; refine ⟨_, _, HQ3.out _ _ _, ?_⟩; try simp only [Act.put, List.setIfInBounds_toArray, List.set_cons_zero, List.set_cons_succ, List.getElem_toArray, List.getElem_cons_zero, List.getElem_cons_succ]) | (refine wl_store rfl 47 (.tmp 4) (.tmp 47) rfl ?_; refine ⟨_, STX.out, ?_⟩; try simp only [Act.put, List.setIfInBounds_toArray, List.set_cons_zero, List.set_cons_succ, List.getElem_toArray, List.getElem_cons_zero, List.getElem_cons_succ]))
      exact bodyPost_ret (results_sup2 rfl rfl rfl SSX.out) rfl ⟨by rw [HU.out]; rfl, HK6.out.setCells (.inr HGS.out.2.2.2.2.2) _ _⟩
end Go.Proofs.YtojlojdkhegbkaaDoor

/-
  Package frame: Choose.
-/
namespace Go.Proofs.YtojlojdkhegbkaaDoor
set_option linter.unusedVariables false
set_option linter.unusedSimpArgs false
open Go.RowKit

theorem unsup_valid {l : List UInt8} (h : (unsupL l).1 = 0) : (unsupL l).2.valid = true := by
  unfold unsupL at h ⊢
  split at h
  · simp at h
  split at h
  · simp at h
  split at h
  · simp at h
  split at h
  · simp at h
  rename_i h1 h2 h3 h4
  rw [if_neg h1, if_neg h2, if_neg h3, if_neg h4]
  simpa using h4
theorem valid_inGen {s : Sup} (h : s.valid = true) : s.inGen := by
  unfold Sup.valid at h
  simp only [Bool.and_eq_true, decide_eq_true_eq] at h
  obtain ⟨⟨⟨⟨⟨⟨⟨⟨h1, h2⟩, h3⟩, h4⟩, _⟩, _⟩, _⟩, _⟩, _⟩ := h
  exact ⟨h3, h4⟩
set_option maxRecDepth 100000 in
set_option maxHeartbeats 1600000 in
theorem choose_any {w : World} {v1 v2 : Value} {l1 l2 : List UInt8} (h1 : BytesAt w v1 l1) (h2 : BytesAt w v2 l2) :
    Calls Tryd.prog 57 #[v1, v2] w fun e w' => e = .returned (.tuple #[supV (chooseL l1 l2).2, .int .i64 (chooseL l1 l2).1]) ∧ Keeps [] w w' := by
  obtain ⟨R, hR⟩ : ∃ R, R = chooseL l1 l2 := ⟨_, rfl⟩
  rw [← hR]
  unfold chooseL at hR
  obtain ⟨w0, hw0⟩ : ∃ w0, w0 = w.alloc (.cells #[.int .i64 0, .int .i64 0, .int .i64 0, .int .i64 0, .int .i64 0] 47 (0, 0)) := ⟨_, rfl⟩
  obtain ⟨g0, hg0⟩ : ∃ g, g = w.heap.size := ⟨_, rfl⟩
  have hz0 : SupAt w0 g0 zSup := by rw [hw0]; exact heap_new_at hg0
  have hk0 : Keeps [] w w0 := by rw [hw0]; exact (Keeps.refl _ _).alloc _
  have CA := Lib.hid (unpackSuper_any (h1.keeps hk0 (by simp)))
  obtain ⟨RA, hRA⟩ : ∃ r, r = unsupL l1 := ⟨_, rfl⟩
  obtain ⟨RB, hRB⟩ : ∃ r, r = unsupL l2 := ⟨_, rfl⟩
  obtain ⟨ea, hea⟩ : ∃ r, r = emptyL l1 := ⟨_, rfl⟩
  obtain ⟨eb, heb⟩ : ∃ r, r = emptyL l2 := ⟨_, rfl⟩
  have va : RA.1 = 0 → RA.2.inGen := fun h => by subst hRA; exact valid_inGen (unsup_valid h)
  have vb : RB.1 = 0 → RB.2.inGen := fun h => by subst hRB; exact valid_inGen (unsup_valid h)
  have C2 : ∀ wx, Keeps [] w wx → Calls Tryd.prog 71 #[v2] wx fun e w' => e = .returned (.tuple #[supV RB.2, .int .i64 RB.1]) ∧ Keeps [] wx w' := fun wx hk => by
    subst hRB; exact unpackSuper_any (h2.keeps hk (by simp))
  have hE1 : ∀ wx, Keeps [] w wx → Calls Tryd.prog 73 #[v1] wx fun e w' => e = .returned (.bool ea) ∧ wx = w' := fun wx hk => by
    subst hea; exact empty_any (h1.keeps hk (by simp))
  have hE2 : ∀ wx, Keeps [] w wx → Calls Tryd.prog 73 #[v2] wx fun e w' => e = .returned (.bool eb) ∧ wx = w' := fun wx hk => by
    subst heb; exact empty_any (h2.keeps hk (by simp))
  rw [← hRA, ← hRB, ← hea, ← heb] at hR
  rw [← hRA] at CA
  have CB := Lib.hid C2
  have E1 := Lib.hid hE1
  have E2 := Lib.hid hE2
  have VA := Lib.hid va
  have VB := Lib.hid vb
  have HR := Lib.hid hR
  have HW0 := Lib.hid hw0
  have HG := Lib.hid hg0
  have HG0 := Lib.hid (show w.heap.size ≤ g0 by omega)
  have HZ0 := Lib.hid hz0
  have HK0 := Lib.hid hk0
  clear h1 h2 hR hw0 hg0 hz0 hk0 hRA hRB hea heb va vb C2 hE1 hE2
  obtain ⟨e1, x⟩ := RA
  obtain ⟨e2, y⟩ := RB
  go_enter Tryd.func57, Tryd.ntmps57
  go_upto_region 1 with fail
  rw [← HW0.out, ← HG.out]
  go_wp2_with fail
  refine CA.out.mono ?_
  rintro e w1 ⟨rfl, hk1⟩
  obtain ⟨w2, hw2⟩ : ∃ w2, w2 = w1.alloc (.cells (supC x).toArray 47 (0, 0)) := ⟨_, rfl⟩
  obtain ⟨gx, hgx⟩ : ∃ g, g = w1.heap.size := ⟨_, rfl⟩
  have hst2 := run_storeAt_new (P := Tryd.prog) w1 47 #[.int .i64 0, .int .i64 0, .int .i64 0, .int .i64 0, .int .i64 0] (supC x).toArray (by rw [size_super]; rfl) rfl (all_oneCell_toArray (supC_one _))
  have hk12 : Keeps [] w1 w2 := by rw [hw2]; exact (Keeps.refl _ _).alloc _
  have hx2 : SupAt w2 gx x := by rw [hw2]; exact heap_new_at hgx
  have HK2 := Lib.hid (HK0.out.trans (G := []) (hk1.trans (G := []) hk12 (by simp)) (by simp))
  have HZ2 := Lib.hid ((HZ0.out.keeps hk1 (by simp)).keeps hk12 (by simp))
  have HX2 := Lib.hid hx2
  have HST2 := Lib.hid hst2
  have HW2 := Lib.hid hw2
  have HGX := Lib.hid hgx
  have CB2 := Lib.hid (CB.out w2 HK2.out)
  clear hk1 hw2 hgx hst2 hk12 hx2 CA CB
  go_upto_region 2 with (first | (refine wl_store rfl 47 (.tmp 6) (.tmp 13) rfl ?_; refine ⟨_, HST2.out, ?_⟩; try simp only [Act.put, List.setIfInBounds_toArray, List.set_cons_zero, List.set_cons_succ, List.getElem_toArray, List.getElem_cons_zero, List.getElem_cons_succ]))
  rw [show w1.alloc (.cells (supC x).toArray 47) = w2 from HW2.out.symm, ← HGX.out]
  go_wp2_with fail
  refine CB2.out.mono ?_
  rintro e w3 ⟨rfl, hk3⟩
  obtain ⟨w4, hw4⟩ : ∃ w4, w4 = w3.alloc (.cells (supC y).toArray 47 (0, 0)) := ⟨_, rfl⟩
  obtain ⟨gy, hgy⟩ : ∃ g, g = w3.heap.size := ⟨_, rfl⟩
  have hst4 := run_storeAt_new (P := Tryd.prog) w3 47 #[.int .i64 0, .int .i64 0, .int .i64 0, .int .i64 0, .int .i64 0] (supC y).toArray (by rw [size_super]; rfl) rfl (all_oneCell_toArray (supC_one _))
  have hk34 : Keeps [] w3 w4 := by rw [hw4]; exact (Keeps.refl _ _).alloc _
  have hy4 : SupAt w4 gy y := by rw [hw4]; exact heap_new_at hgy
  have HK4 := Lib.hid (HK2.out.trans (G := []) (hk3.trans (G := []) hk34 (by simp)) (by simp))
  have HZ4 := Lib.hid ((HZ2.out.keeps hk3 (by simp)).keeps hk34 (by simp))
  have HX4 := Lib.hid ((HX2.out.keeps hk3 (by simp)).keeps hk34 (by simp))
  have HY4 := Lib.hid hy4
  have HST4 := Lib.hid hst4
  have HW4 := Lib.hid hw4
  have HGY := Lib.hid hgy
  have EA := Lib.hid (E1.out w4 HK4.out)
  have EB := Lib.hid (E2.out w4 HK4.out)
  have HLX := Lib.hid HX4.out.load
  have HLY := Lib.hid HY4.out.load
  obtain ⟨stz, ssz⟩ := HZ4.out.store zSup
  have STZ := Lib.hid stz
  have SSZ := Lib.hid ssz
  clear hk3 hw4 hgy hst4 hk34 hy4 CB2 stz ssz E1 E2
  go_upto_region 3 with (first | (refine wl_store rfl 47 (.tmp 8) (.tmp 18) rfl ?_; refine ⟨_, HST4.out, ?_⟩; try simp only [Act.put, List.setIfInBounds_toArray, List.set_cons_zero, List.set_cons_succ, List.getElem_toArray, List.getElem_cons_zero, List.getElem_cons_succ]))
  rw [show w3.alloc (.cells (supC y).toArray 47) = w4 from HW4.out.symm, ← HGY.out]
  clear HST2 HST4 HW2 HW4 HGX HGY HX2 HZ2
  have hR := HR.out
  try dsimp only at hR
  have hVA := VA.out
  have hVB := VB.out
  try dsimp only at hVA hVB
  clear HR VA VB
  by_cases h1 : e1 = 0
  · subst h1
    have hga := hVA rfl
    clear hVA
    by_cases h2 : e2 = 0
    · subst h2
      have hgb := hVB rfl
      rw [if_pos ⟨rfl, rfl⟩] at hR
      have HU := Lib.hid hR
      have CN := Lib.hid (newer_any (w := w4) hga hgb)
      clear hR hga hgb hVB
      go_wp2_with (first | (refine wl_load rfl 47 (.tmp 6) rfl ?_; refine ⟨_, _, HLX.out, ?_⟩; try simp only [Act.put, List.setIfInBounds_toArray, List.set_cons_zero, List.set_cons_succ, List.getElem_toArray, List.getElem_cons_zero, List.getElem_cons_succ]) | (refine wl_load rfl 47 (.tmp 8) rfl ?_; refine ⟨_, _, HLY.out, ?_⟩; try simp only [Act.put, List.setIfInBounds_toArray, List.set_cons_zero, List.set_cons_succ, List.getElem_toArray, List.getElem_cons_zero, List.getElem_cons_succ]))
      refine CN.out.mono ?_
      rintro e w5 ⟨rfl, hk5⟩
      obtain ⟨st5, ss5⟩ := (HZ4.out.keeps hk5 (by simp)).store (newerL x y).2
      have ST5 := Lib.hid st5
      have SS5 := Lib.hid ss5
      have HK5 := Lib.hid (HK4.out.trans (G := []) hk5 (by simp))
      clear hk5 st5 ss5
      go_wp2_with (first | (refine wl_store rfl 47 (.tmp 4) (.tmp 45) rfl ?_; refine ⟨_, ST5.out, ?_⟩; try simp only [Act.put, List.setIfInBounds_toArray, List.set_cons_zero, List.set_cons_succ, List.getElem_toArray, List.getElem_cons_zero, List.getElem_cons_succ]))
      exact bodyPost_ret (results_sup2 rfl rfl rfl SS5.out) rfl ⟨by rw [HU.out]; rfl, HK5.out.setCells (.inr HG0.out) _ _⟩
    · have q2 : (e2 == 0) = false := by simpa using h2
      rw [if_neg (by rintro ⟨_, h⟩; exact h2 h)] at hR
      clear hVB hga
      cases eb with
      | false =>
        have HU := Lib.hid (show R = (4, zSup) by rw [hR]; rfl)
        clear hR h2
        go_wp2_with (first | (refine wl_load rfl 47 (.tmp 6) rfl ?_; refine ⟨_, _, HLX.out, ?_⟩; try simp only [Act.put, List.setIfInBounds_toArray, List.set_cons_zero, List.set_cons_succ, List.getElem_toArray, List.getElem_cons_zero, List.getElem_cons_succ]) | (refine wl_load rfl 47 (.tmp 8) rfl ?_; refine ⟨_, _, HLY.out, ?_⟩; try simp only [Act.put, List.setIfInBounds_toArray, List.set_cons_zero, List.set_cons_succ, List.getElem_toArray, List.getElem_cons_zero, List.getElem_cons_succ]) | (go_at_call 73; ((with_reducible refine EB.out.mono ?_); rintro e w' ⟨rfl, rfl⟩)) | (go_at_call 73; ((with_reducible refine EA.out.mono ?_); rintro e w' ⟨rfl, rfl⟩)) | (refine wl_store rfl 47 (.tmp 4) (.tmp 47) rfl ?_; refine ⟨_, STZ.out, ?_⟩; try simp only [Act.put, List.setIfInBounds_toArray, List.set_cons_zero, List.set_cons_succ, List.getElem_toArray, List.getElem_cons_zero, List.getElem_cons_succ]))
        exact bodyPost_ret (results_sup2 rfl rfl rfl SSZ.out) rfl ⟨by rw [HU.out]; rfl, HK4.out.setCells (.inr HG0.out) _ _⟩
      | true =>
      rw [if_neg (by simp)] at hR
      by_cases hgn : x.gen = 0
      · have HU := Lib.hid (show R = (55, zSup) by rw [hR, if_pos (.inl ⟨rfl, hgn⟩)])
        have cx := HX4.out.cells.2.1
        rw [hgn] at cx
        clear hR h2 hgn
        go_wp2_with (first | (refine wl_load rfl 47 (.tmp 6) rfl ?_; refine ⟨_, _, HLX.out, ?_⟩; try simp only [Act.put, List.setIfInBounds_toArray, List.set_cons_zero, List.set_cons_succ, List.getElem_toArray, List.getElem_cons_zero, List.getElem_cons_succ]) | (refine wl_load rfl 47 (.tmp 8) rfl ?_; refine ⟨_, _, HLY.out, ?_⟩; try simp only [Act.put, List.setIfInBounds_toArray, List.set_cons_zero, List.set_cons_succ, List.getElem_toArray, List.getElem_cons_zero, List.getElem_cons_succ]) | (go_at_call 73; ((with_reducible refine EB.out.mono ?_); rintro e w' ⟨rfl, rfl⟩)) | (go_at_call 73; ((with_reducible refine EA.out.mono ?_); rintro e w' ⟨rfl, rfl⟩)) | (refine wl_store rfl 47 (.tmp 4) (.tmp 48) rfl ?_; refine ⟨_, STZ.out, ?_⟩; try simp only [Act.put, List.setIfInBounds_toArray, List.set_cons_zero, List.set_cons_succ, List.getElem_toArray, List.getElem_cons_zero, List.getElem_cons_succ]))
        exact bodyPost_ret (results_sup2 rfl rfl rfl SSZ.out) rfl ⟨by rw [HU.out]; rfl, HK4.out.setCells (.inr HG0.out) _ _⟩
      · have cx := HX4.out.cells.2.1
        obtain ⟨n, hn⟩ : ∃ n, n = x.gen := ⟨_, rfl⟩
        rw [← hn] at cx hgn hR
        have qn : (n == 0) = false := by simpa using hgn
        cases ea with
        | true =>
          have HU := Lib.hid (show R = (55, zSup) by rw [hR, if_pos (.inr rfl)])
          clear hR h2 hn hgn
          go_wp2_with (first | (refine wl_load rfl 47 (.tmp 6) rfl ?_; refine ⟨_, _, HLX.out, ?_⟩; try simp only [Act.put, List.setIfInBounds_toArray, List.set_cons_zero, List.set_cons_succ, List.getElem_toArray, List.getElem_cons_zero, List.getElem_cons_succ]) | (refine wl_load rfl 47 (.tmp 8) rfl ?_; refine ⟨_, _, HLY.out, ?_⟩; try simp only [Act.put, List.setIfInBounds_toArray, List.set_cons_zero, List.set_cons_succ, List.getElem_toArray, List.getElem_cons_zero, List.getElem_cons_succ]) | (go_at_call 73; ((with_reducible refine EB.out.mono ?_); rintro e w' ⟨rfl, rfl⟩)) | (go_at_call 73; ((with_reducible refine EA.out.mono ?_); rintro e w' ⟨rfl, rfl⟩)) | (refine wl_store rfl 47 (.tmp 4) (.tmp 48) rfl ?_; refine ⟨_, STZ.out, ?_⟩; try simp only [Act.put, List.setIfInBounds_toArray, List.set_cons_zero, List.set_cons_succ, List.getElem_toArray, List.getElem_cons_zero, List.getElem_cons_succ]))
          exact bodyPost_ret (results_sup2 rfl rfl rfl SSZ.out) rfl ⟨by rw [HU.out]; rfl, HK4.out.setCells (.inr HG0.out) _ _⟩
        | false =>
          have HU := Lib.hid (show R = (4, zSup) by rw [hR, if_neg (by rintro (h | h); exact hgn h.2; exact absurd h (by simp))])
          clear hR h2 hn hgn
          go_wp2_with (first | (refine wl_load rfl 47 (.tmp 6) rfl ?_; refine ⟨_, _, HLX.out, ?_⟩; try simp only [Act.put, List.setIfInBounds_toArray, List.set_cons_zero, List.set_cons_succ, List.getElem_toArray, List.getElem_cons_zero, List.getElem_cons_succ]) | (refine wl_load rfl 47 (.tmp 8) rfl ?_; refine ⟨_, _, HLY.out, ?_⟩; try simp only [Act.put, List.setIfInBounds_toArray, List.set_cons_zero, List.set_cons_succ, List.getElem_toArray, List.getElem_cons_zero, List.getElem_cons_succ]) | (go_at_call 73; ((with_reducible refine EB.out.mono ?_); rintro e w' ⟨rfl, rfl⟩)) | (go_at_call 73; ((with_reducible refine EA.out.mono ?_); rintro e w' ⟨rfl, rfl⟩)) | (refine wl_store rfl 47 (.tmp 4) (.tmp 49) rfl ?_; refine ⟨_, STZ.out, ?_⟩; try simp only [Act.put, List.setIfInBounds_toArray, List.set_cons_zero, List.set_cons_succ, List.getElem_toArray, List.getElem_cons_zero, List.getElem_cons_succ]))
          exact bodyPost_ret (results_sup2 rfl rfl rfl SSZ.out) rfl ⟨by rw [HU.out]; rfl, HK4.out.setCells (.inr HG0.out) _ _⟩
  · have q1 : (e1 == 0) = false := by simpa using h1
    rw [if_neg (by rintro ⟨h, _⟩; exact h1 h)] at hR
    clear hVA hVB
    cases eb with
    | false =>
      have HU := Lib.hid (show R = (4, zSup) by rw [hR]; rfl)
      clear hR h1
      go_wp2_with (first | (refine wl_load rfl 47 (.tmp 6) rfl ?_; refine ⟨_, _, HLX.out, ?_⟩; try simp only [Act.put, List.setIfInBounds_toArray, List.set_cons_zero, List.set_cons_succ, List.getElem_toArray, List.getElem_cons_zero, List.getElem_cons_succ]) | (refine wl_load rfl 47 (.tmp 8) rfl ?_; refine ⟨_, _, HLY.out, ?_⟩; try simp only [Act.put, List.setIfInBounds_toArray, List.set_cons_zero, List.set_cons_succ, List.getElem_toArray, List.getElem_cons_zero, List.getElem_cons_succ]) | (go_at_call 73; ((with_reducible refine EB.out.mono ?_); rintro e w' ⟨rfl, rfl⟩)) | (go_at_call 73; ((with_reducible refine EA.out.mono ?_); rintro e w' ⟨rfl, rfl⟩)) | (refine wl_store rfl 47 (.tmp 4) (.tmp 47) rfl ?_; refine ⟨_, STZ.out, ?_⟩; try simp only [Act.put, List.setIfInBounds_toArray, List.set_cons_zero, List.set_cons_succ, List.getElem_toArray, List.getElem_cons_zero, List.getElem_cons_succ]))
      exact bodyPost_ret (results_sup2 rfl rfl rfl SSZ.out) rfl ⟨by rw [HU.out]; rfl, HK4.out.setCells (.inr HG0.out) _ _⟩
    | true =>
    rw [if_neg (by simp)] at hR
    cases ea with
    | true =>
      have HU := Lib.hid (show R = (55, zSup) by rw [hR, if_pos (.inr rfl)])
      clear hR h1
      go_wp2_with (first | (refine wl_load rfl 47 (.tmp 6) rfl ?_; refine ⟨_, _, HLX.out, ?_⟩; try simp only [Act.put, List.setIfInBounds_toArray, List.set_cons_zero, List.set_cons_succ, List.getElem_toArray, List.getElem_cons_zero, List.getElem_cons_succ]) | (refine wl_load rfl 47 (.tmp 8) rfl ?_; refine ⟨_, _, HLY.out, ?_⟩; try simp only [Act.put, List.setIfInBounds_toArray, List.set_cons_zero, List.set_cons_succ, List.getElem_toArray, List.getElem_cons_zero, List.getElem_cons_succ]) | (go_at_call 73; ((with_reducible refine EB.out.mono ?_); rintro e w' ⟨rfl, rfl⟩)) | (go_at_call 73; ((with_reducible refine EA.out.mono ?_); rintro e w' ⟨rfl, rfl⟩)) | (refine wl_store rfl 47 (.tmp 4) (.tmp 48) rfl ?_; refine ⟨_, STZ.out, ?_⟩; try simp only [Act.put, List.setIfInBounds_toArray, List.set_cons_zero, List.set_cons_succ, List.getElem_toArray, List.getElem_cons_zero, List.getElem_cons_succ]))
      exact bodyPost_ret (results_sup2 rfl rfl rfl SSZ.out) rfl ⟨by rw [HU.out]; rfl, HK4.out.setCells (.inr HG0.out) _ _⟩
    | false =>
      have HU := Lib.hid (show R = (4, zSup) by rw [hR, if_neg (by rintro (h | h); exact h1 h.1; exact absurd h (by simp))])
      clear hR h1
      go_wp2_with (first | (refine wl_load rfl 47 (.tmp 6) rfl ?_; refine ⟨_, _, HLX.out, ?_⟩; try simp only [Act.put, List.setIfInBounds_toArray, List.set_cons_zero, List.set_cons_succ, List.getElem_toArray, List.getElem_cons_zero, List.getElem_cons_succ]) | (refine wl_load rfl 47 (.tmp 8) rfl ?_; refine ⟨_, _, HLY.out, ?_⟩; try simp only [Act.put, List.setIfInBounds_toArray, List.set_cons_zero, List.set_cons_succ, List.getElem_toArray, List.getElem_cons_zero, List.getElem_cons_succ]) | (go_at_call 73; ((with_reducible refine EB.out.mono ?_); rintro e w' ⟨rfl, rfl⟩)) | (go_at_call 73; ((with_reducible refine EA.out.mono ?_); rintro e w' ⟨rfl, rfl⟩)) | (refine wl_store rfl 47 (.tmp 4) (.tmp 49) rfl ?_; refine ⟨_, STZ.out, ?_⟩; try simp only [Act.put, List.setIfInBounds_toArray, List.set_cons_zero, List.set_cons_succ, List.getElem_toArray, List.getElem_cons_zero, List.getElem_cons_succ]))
      exact bodyPost_ret (results_sup2 rfl rfl rfl SSZ.out) rfl ⟨by rw [HU.out]; rfl, HK4.out.setCells (.inr HG0.out) _ _⟩
end Go.Proofs.YtojlojdkhegbkaaDoor

/-
  Package cache: the walks of New, Hold of a new key, Get of a held one.
-/
namespace Go.Proofs.YtojlojdkhegbkaaDoor
set_option linter.unusedVariables false
set_option linter.unusedSimpArgs false
open Go.RowKit

theorem owns_slice {w : World} {base : Nat} {e : TypeId} {size : Nat} {v : Value} {n : Nat} {xs : List Value} (h : w.ownsRow base e size v n xs) : ∃ a c, v = .slice a n c := by
  rcases h.2 with ⟨rfl, h0⟩ | ⟨g, cap, cur, rfl, _⟩
  · exact ⟨none, 0, by rw [h0]⟩
  · exact ⟨_, _, rfl⟩
theorem zero_entryP (w : World) : (zeroValue 109).run Tryd.prog w = .ok (.pointer none) w := by kernel_rfl
set_option maxRecDepth 100000 in
set_option maxHeartbeats 1600000 in
theorem caHold_new {w : World} {c bm : Nat} {C : Ca} {k kind : Int} {lv : Value} {load : List UInt8} (h : CacheIn w c bm C) (hnew : ∀ e ∈ C.all, e.key ≠ k) (hwf : (Lit.int .i64 k).wf = true) (hlv : OwnB w lv load) (hsz : C.all.length < 900000) :
    Calls Tryd.prog 26 #[.pointer (some ⟨c, 0, none⟩), .int .i64 k, .agg #[.int .i64 kind, lv]] w fun e w' => e = .returned (.tuple #[]) ∧ ∃ eb, CacheIn w' c bm { C with kept := C.kept ++ [⟨eb, k, kind, lv, load⟩] } ∧ w.heap.size ≤ eb ∧ Keeps (caF c bm C) w w' := by
  obtain ⟨la, lc, rfl⟩ := owns_slice hlv
  obtain ⟨wA, hwA⟩ : ∃ x, x = w.alloc (.cells #[.int .i64 kind, .slice la load.length lc] 69 (0, 0)) := ⟨_, rfl⟩
  obtain ⟨gv, hgv⟩ : ∃ x, x = w.heap.size := ⟨_, rfl⟩
  have kA : Keeps [] w wA := by rw [hwA]; exact (Keeps.refl _ _).alloc _
  have hA := h.keep (w' := wA) (fun j hj => kA.block j (h.lt j hj) (by simp))
  have hfind : C.find k = none := by
    unfold Ca.find
    rw [List.find?_eq_none.2 (fun e he => by simpa using hnew e he)]
    rfl
  have hlk := hA.map.look (tm := 110) (te := 109) Tryd.underlying3 Tryd.underlying110 (zero_entryP _) hwf
  rw [hfind] at hlk
  obtain ⟨wB, hwB⟩ : ∃ x, x = wA.alloc (.cells #[.int .i64 k, .int .i64 0, .slice none 0 0, .bool false, .pointer none, .pointer none] 112 (0, 0)) := ⟨_, rfl⟩
  obtain ⟨eb, heb⟩ : ∃ x, x = wA.heap.size := ⟨_, rfl⟩
  have kB : Keeps [] wA wB := by rw [hwB]; exact (Keeps.refl _ _).alloc _
  have hB := hA.keep (w' := wB) (fun j hj => kB.block j (hA.lt j hj) (by simp))
  obtain ⟨wC, hput, hmC, hgC, hsC⟩ := hB.map.put (tm := 110) (te := 109) Tryd.underlying3 Tryd.underlying110 (by simp only [maxLen]; omega) (v := eb) hwf
  obtain ⟨p1, n1, p2, n2, hroot⟩ := h.root
  have hcl := lt_of_heap hroot
  have hcb := h.c_ne
  have hsA : wA.heap.size = w.heap.size + 1 := by rw [hwA]; simp
  have hsB : wB.heap.size = w.heap.size + 2 := by rw [hwB]; simp; omega
  have hold : ∀ b, b < w.heap.size → b ≠ bm → wC.heap[b]? = w.heap[b]? := fun b x y => by
    rw [hgC.block b (by omega) (by simpa using y), kB.block b (by omega) (by simp), kA.block b x (by simp)]
  have hbl := h.map.lt
  have hEC : wC.heap[eb]? = some (.cells #[.int .i64 k, .int .i64 0, .slice none 0 0, .bool false, .pointer none, .pointer none] 112 (0, 0)) := by
    rw [hgC.block eb (by omega) (by simp; omega), hwB]
    exact heap_new_at heb
  have hVC : wC.heap[gv]? = some (.cells #[.int .i64 kind, .slice la load.length lc] 69 (0, 0)) := by
    rw [hgC.block gv (by omega) (by simp; omega), kB.block gv (by omega) (by simp), hwA]
    exact heap_new_at hgv
  obtain ⟨pb, po, hp⟩ : ∃ pb po, lastOf ⟨c, 9⟩ (C.kept.map Ent.nd) = ⟨pb, po⟩ := ⟨_, _, rfl⟩
  have hback := h.kring.back
  rw [hp] at hback
  have hcase := lastOf_cases c 9 C.kept
  rw [hp] at hcase
  have hpbl : pb < w.heap.size ∧ pb ≠ bm ∧ (pb = c → po = 9) ∧ ∃ cs t, w.heap[pb]? = some (.cells cs t (0, 0)) := by
    rcases hcase with ⟨h0, h1⟩ | ⟨l', e, h0, h1⟩
    · simp only [Nd.mk.injEq] at h1
      obtain ⟨rfl, rfl⟩ := h1
      exact ⟨hcl, hcb, fun _ => rfl, _, _, hroot⟩
    · simp only [Ent.nd, Nd.mk.injEq] at h1
      obtain ⟨rfl, rfl⟩ := h1
      have he : e ∈ C.all := by rw [Ca.all, h0]; simp
      obtain ⟨_, _, _, hr⟩ := h.ent he
      exact ⟨lt_of_heap hr, (h.blk_ne he).2.1, fun e1 => absurd e1 (h.blk_ne he).1, _, _, hr⟩
  obtain ⟨hpl, hpm, hpc, csp, tp, hrp⟩ := hpbl
  have hkl : C.kept.length ≤ C.all.length := by simp [Ca.all]
  have hrootC := (hold c hcl hcb).trans hroot
  have hrpC := (hold pb hpl hpm).trans hrp
  have CL := Lib.hid (row_last (w := wC) (c := c) (o := 9) (eb := eb) (pb := pb) (po := po) (sz := C.kept.length) (u4 := .pointer none) (u5 := .pointer none) (u6 := .pointer (some ⟨c, 9, none⟩)) (cell_sets_of hEC rfl) (cell_sets_of hEC rfl)
    ((cell_of_heap (hold c hcl hcb) 13).trans hback.2) ((cell_of_heap (hold pb hpl hpm) (po + 5)).trans hback.1) (cell_sets_of hrootC rfl)
    (fun j => frozen_of_row wC eb j _ _ hEC) (fun j => frozen_of_row wC c j _ _ hrootC) (fun j => frozen_of_row wC pb j _ _ hrpC) (by omega) (by omega) hpc (by omega) (by omega))
  obtain ⟨wD, hwD⟩ : ∃ x, x = (lastW wC c 9 eb pb po C.kept.length).drew.drew := ⟨_, rfl⟩
  rw [← hwD] at CL
  obtain ⟨WS, hWS⟩ : ∃ x, x = sets wC [(eb, 4, .pointer (some ⟨pb, po, none⟩)), (eb, 5, .pointer (some ⟨c, 9, none⟩)), (pb, po + 5, .pointer (some ⟨eb, 0, none⟩)), (c, 13, .pointer (some ⟨eb, 0, none⟩)), (c, 15, .int .i64 (C.kept.length + 1))] := ⟨_, rfl⟩
  have hwD' : wD = WS.drew.drew := by rw [hwD, hWS]; rfl
  have hhD : wD.heap = WS.heap := by rw [hwD']; rfl
  have ec : c ≠ eb := by omega
  have ep : pb ≠ eb := by omega
  have hED : wD.heap[eb]? = some (.cells #[.int .i64 k, .int .i64 0, .slice none 0 0, .bool false, .pointer (some ⟨pb, po, none⟩), .pointer (some ⟨c, 9, none⟩)] 112 (0, 0)) := by
    rw [hhD, hWS]
    have := heap_sets [(eb, 4, .pointer (some ⟨pb, po, none⟩)), (eb, 5, .pointer (some ⟨c, 9, none⟩)), (pb, po + 5, .pointer (some ⟨eb, 0, none⟩)), (c, 13, .pointer (some ⟨eb, 0, none⟩)), (c, 15, .int .i64 (C.kept.length + 1))] hEC
    simp only [List.foldl_cons, List.foldl_nil, if_true, if_neg ec, if_neg ep] at this
    exact this
  have hVD : wD.heap[gv]? = some (.cells #[.int .i64 kind, .slice la load.length lc] 69 (0, 0)) := by
    rw [hhD, hWS]
    refine (heap_sets_other _ (fun x hx => ?_)).trans hVC
    simp only [List.mem_cons, List.not_mem_nil, or_false] at hx
    rcases hx with rfl | rfl | rfl | rfl | rfl <;> (show _ ≠ gv; omega)
  have v0 : wD.cell? ⟨gv, 0, none⟩ = some (.int .i64 kind) := cell_sets_of hVD rfl
  have v1 : wD.cell? ⟨gv, 1, none⟩ = some (.slice la load.length lc) := cell_sets_of hVD rfl
  have g1 : wD.cell? ⟨eb, 1, none⟩ = some (.int .i64 0) := cell_sets_of hED rfl
  have g2 : wD.cell? ⟨eb, 2, none⟩ = some (.slice none 0 0) := cell_sets_of hED rfl
  have g3 : wD.cell? ⟨eb, 3, none⟩ = some (.bool false) := cell_sets_of hED rfl
  have z1 := frozen_of_row wD eb 1 _ _ hED
  have z2 := frozen_of_row wD eb 2 _ _ hED
  have z3 := frozen_of_row wD eb 3 _ _ hED
  have cm : wA.cell? ⟨c, 1, none⟩ = some (.map (some bm)) := (cell_of_heap (kA.block c hcl (by simp)) 1).trans (cell_sets_of hroot rfl)
  have cmB : wB.cell? ⟨c, 1, none⟩ = some (.map (some bm)) := (cell_of_heap (kB.block c (by omega) (by simp)) 1).trans cm
  have hclose := hold_close (w2 := wC) (kind := kind) (load := load) h hnew hwf hlv hold (by omega) hEC (by rw [show C.all.length = C.all.length from rfl]; exact hmC) hp
  have hfin : sets wC (holdL c eb pb po C.kept.length kind (.slice la load.length lc)) = ((WS.setCell ⟨eb, 1, none⟩ (.int .i64 kind)).setCell ⟨eb, 2, none⟩ (.slice la load.length lc)).setCell ⟨eb, 3, none⟩ (.bool true) := by rw [hWS]; rfl
  have HFIN := Lib.hid hfin
  have HCL := Lib.hid hclose
  have HWD := Lib.hid hwD'
  have hkeep : Keeps (caF c bm C) w (sets wC (holdL c eb pb po C.kept.length kind (.slice la load.length lc))) := by
    have k1 : Keeps (caF c bm C) w wC := (kA.mono (by simp)).trans ((kB.mono (G := [bm]) (by simp)).grown hgC (fun j hj => .inl (by simpa using hj.symm))) (fun j hj => .inl (by simp at hj; subst hj; exact mem_caF.2 (.inr (.inl rfl))))
    refine k1.sets _ (fun x hx => ?_)
    have hpf : pb ∈ caF c bm C := by
      rcases hcase with ⟨h0, h1⟩ | ⟨l', e, h0, h1⟩
      · simp only [Nd.mk.injEq] at h1
        rw [h1.1]; exact mem_caF.2 (.inl rfl)
      · simp only [Ent.nd, Nd.mk.injEq] at h1
        rw [h1.1]; exact mem_caF.2 (.inr (.inr (.inl ⟨e, by rw [Ca.all, h0]; simp, rfl⟩)))
    have hcf : c ∈ caF c bm C := mem_caF.2 (.inl rfl)
    have hef : w.heap.size ≤ eb := by omega
    simp only [holdL, List.mem_cons, List.not_mem_nil, or_false] at hx
    rcases hx with rfl | rfl | rfl | rfl | rfl | rfl | rfl | rfl <;> first | exact .inr hef | exact .inl hpf | exact .inl hcf
  have HKP := Lib.hid hkeep
  have HEB := Lib.hid (show w.heap.size ≤ eb by omega)
  have hlk' : (Instr.lookup 110 (.map (some bm)) (.int .i64 k) false).run Tryd.prog wA = .ok (.pointer none) wA := hlk
  have HLK := Lib.hid hlk'
  have HPU := Lib.hid hput
  have HA := Lib.hid hwA
  have HB := Lib.hid hwB
  have HE := Lib.hid heb
  have HV := Lib.hid hgv
  clear h hnew hwf hlv hsz hwA hgv kA hA hfind hlk hlk' hwB heb kB hB hput hmC hgC hsC hroot hcl hcb hsA hsB hold hbl hEC hVC hp hback hcase hpl hpm hpc hrp hrootC hrpC hwD hwD' hhD hWS hfin hkl ec ep hED hVD hclose hkeep
  go_enter Tryd.func26, Tryd.ntmps26
  go_upto_region 1 with fail
  rw [← HA.out, ← HV.out]
  go_upto_region 3 with (first | (refine wl_lookup rfl 110 (.tmp 10) (.tmp 11) false rfl ?_; refine ⟨_, _, HLK.out, ?_⟩; try simp only [Act.put, List.setIfInBounds_toArray, List.set_cons_zero, List.set_cons_succ, List.getElem_toArray, List.getElem_cons_zero, List.getElem_cons_succ]))
  go_upto_region 4 with fail
  rw [← HB.out, ← HE.out]
  go_upto_region 5 with (first | (refine wl_mapUpdate rfl 110 (.tmp 22) (.tmp 23) (.tmp 24) rfl ?_; refine ⟨_, HPU.out, ?_⟩; try simp only [Act.put, List.setIfInBounds_toArray, List.set_cons_zero, List.set_cons_succ, List.getElem_toArray, List.getElem_cons_zero, List.getElem_cons_succ]))
  go_wp2_with fail
  refine CL.out.mono ?_
  rintro e w' ⟨rfl, hw'⟩
  obtain rfl : wD = w' := hw'.symm
  clear CL
  go_wp2_with fail
  refine Go.Great.bodyPost_end0 rfl rfl ⟨rfl, eb, ?_, HEB.out, ?_⟩
  · have h1 := HCL.out
    rw [HFIN.out] at h1
    rw [HWD.out]
    exact h1.keep (fun _ _ => rfl)
  · have h1 := HKP.out
    rw [HFIN.out] at h1
    rw [HWD.out]
    exact ⟨h1.os, h1.tape, h1.output, h1.size, h1.block⟩
theorem CacheIn.hit {w : World} {c bm : Nat} {C : Ca} (h : CacheIn w c bm C) (x : Int) : CacheIn (w.setCell ⟨c, 16, none⟩ (.int .i64 x)) c bm { C with hits := x } := by
  obtain ⟨W, hW⟩ : ∃ W, W = w.setCell ⟨c, 16, none⟩ (.int .i64 x) := ⟨_, rfl⟩
  rw [← hW]
  have hoth : ∀ b, b ≠ c → W.heap[b]? = w.heap[b]? := fun b hb => by rw [hW]; exact Below.heap_setCell w _ _ b hb
  have hcell : ∀ b j, (b ≠ c ∨ j ≠ 16) → W.cell? ⟨b, j, none⟩ = w.cell? ⟨b, j, none⟩ := fun b j hj => by
    rw [hW]
    exact World.cell?_setCell_other w _ _ _ (fun e => by simp only [Addr.mk.injEq, and_true] at e; omega)
  have he : ∀ e ∈ C.all, W.heap[e.blk]? = w.heap[e.blk]? := fun e he => hoth _ (h.blk_ne he).1
  obtain ⟨p1, n1, p2, n2, hr⟩ := h.root
  refine ⟨⟨p1, n1, p2, n2, ?_⟩, ?_, ?_, ?_, ?_, h.map.keep (hoth bm h.c_ne.symm), ?_, h.keys, h.wf⟩
  · rw [hW]
    exact heap_setCell_same w c 16 _ _ (.int .i64 x) hr
  · intro e hm
    obtain ⟨p, n, hr⟩ := h.clean e hm
    exact ⟨p, n, (he e (List.mem_append_left _ hm)).trans hr⟩
  · intro e hm
    obtain ⟨p, n, hr⟩ := h.kept e hm
    exact ⟨p, n, (he e (List.mem_append_right _ hm)).trans hr⟩
  · refine h.cring.congr (fun y hy => ?_)
    rcases List.mem_cons.1 hy with rfl | hy
    · exact ⟨hcell _ _ (.inr (by show (2 : Nat) + 5 ≠ 16; omega)), hcell _ _ (.inr (by show (2 : Nat) + 4 ≠ 16; omega))⟩
    · obtain ⟨e, hm, rfl⟩ := List.mem_map.1 hy
      exact ⟨cell_of_heap (he e (List.mem_append_left _ hm)) _, cell_of_heap (he e (List.mem_append_left _ hm)) _⟩
  · refine h.kring.congr (fun y hy => ?_)
    rcases List.mem_cons.1 hy with rfl | hy
    · exact ⟨hcell _ _ (.inr (by show (9 : Nat) + 5 ≠ 16; omega)), hcell _ _ (.inr (by show (9 : Nat) + 4 ≠ 16; omega))⟩
    · obtain ⟨e, hm, rfl⟩ := List.mem_map.1 hy
      exact ⟨cell_of_heap (he e (List.mem_append_right _ hm)) _, cell_of_heap (he e (List.mem_append_right _ hm)) _⟩
  · intro e hm
    exact ownsRow_keep (h.loads e hm) (fun k hk => hoth k (h.load_ne hm hk).1)
theorem find_mem {l : List Ent} (hn : (l.map Ent.key).Nodup) {e : Ent} (he : e ∈ l) : l.find? (fun x => x.key == e.key) = some e := by
  induction l with
  | nil => simp at he
  | cons x l ih =>
    simp only [List.map_cons, List.nodup_cons] at hn
    rcases List.mem_cons.1 he with rfl | he
    · simp
    · have hne : x.key ≠ e.key := fun e1 => hn.1 (by rw [e1]; exact List.mem_map.2 ⟨e, he, rfl⟩)
      rw [List.find?_cons_of_neg (by simpa using hne)]
      exact ih hn.2 he
theorem size_content : (Tryd.prog.info? 69).map (·.size) = some 2 := by kernel_rfl
set_option maxRecDepth 100000 in
set_option maxHeartbeats 1600000 in
theorem caGet_held {w : World} {c bm : Nat} {C : Ca} {e : Ent} (h : CacheIn w c bm C) (he : e ∈ C.kept) :
    Calls Tryd.prog 65 #[.pointer (some ⟨c, 0, none⟩), .int .i64 e.key] w fun r w' => r = .returned (.tuple #[.agg #[.int .i64 e.kind, e.lv], .bool true]) ∧ CacheIn w' c bm { C with hits := wrap64 (C.hits + 1) } ∧ Keeps [c] w w' := by
  have hall : e ∈ C.all := List.mem_append_right _ he
  obtain ⟨la, lc, hlv⟩ := owns_slice (h.loads e hall)
  obtain ⟨w0, hw0⟩ : ∃ x, x = w.alloc (.cells #[.int .i64 0, .slice none 0 0] 69 (0, 0)) := ⟨_, rfl⟩
  obtain ⟨g0, hg0⟩ : ∃ x, x = w.heap.size := ⟨_, rfl⟩
  have k0 : Keeps [] w w0 := by rw [hw0]; exact (Keeps.refl _ _).alloc _
  have h0 := h.keep (w' := w0) (fun j hj => k0.block j (h.lt j hj) (by simp))
  have hfind : C.find e.key = some e.blk := by unfold Ca.find; rw [find_mem h.keys hall]; rfl
  have hlk : (Instr.lookup 110 (.map (some bm)) (.int .i64 e.key) false).run Tryd.prog w0 = .ok (.pointer (some ⟨e.blk, 0, none⟩)) w0 := by
    have := h0.map.look (tm := 110) (te := 109) Tryd.underlying3 Tryd.underlying110 (zero_entryP _) (h.wf e hall)
    rw [hfind] at this
    exact this
  obtain ⟨p1, n1, p2, n2, hroot⟩ := h0.root
  obtain ⟨pe, ne, hent⟩ := h0.kept e he
  obtain ⟨hb1, hb2, _⟩ := h.blk_ne hall
  have hcl := h.lt c (by simp [caF])
  have hel := h.lt e.blk (mem_caF.2 (.inr (.inr (.inl ⟨e, hall, rfl⟩))))
  have hz0 : w0.heap[g0]? = some (.cells #[.int .i64 0, .slice none 0 0] 69 (0, 0)) := by rw [hw0]; exact heap_new_at hg0
  obtain ⟨w1, hw1⟩ : ∃ x, x = w0.setCell ⟨c, 16, none⟩ (.int .i64 (wrap64 (C.hits + 1))) := ⟨_, rfl⟩
  have hH := h0.hit (wrap64 (C.hits + 1))
  rw [← hw1] at hH
  have hoth : ∀ b, b ≠ c → w1.heap[b]? = w0.heap[b]? := fun b hb => by rw [hw1]; exact Below.heap_setCell w0 _ _ b hb
  have hent1 := (hoth e.blk hb1).trans hent
  have hz1 := (hoth g0 (by omega)).trans hz0
  have m1 : w0.cell? ⟨c, 1, none⟩ = some (.map (some bm)) := cell_sets_of hroot rfl
  have m16 : w0.cell? ⟨c, 16, none⟩ = some (.int .i64 C.hits) := cell_sets_of hroot rfl
  have z16 := frozen_of_row w0 c 16 _ _ hroot
  have e3 : w1.cell? ⟨e.blk, 3, none⟩ = some (.bool true) := cell_sets_of hent1 rfl
  have e1 : w1.cell? ⟨e.blk, 1, none⟩ = some (.int .i64 e.kind) := cell_sets_of hent1 rfl
  have e2 : w1.cell? ⟨e.blk, 2, none⟩ = some (.slice la e.load.length lc) := by rw [← hlv]; exact cell_sets_of hent1 rfl
  have y0 : w1.cell? ⟨g0, 0, none⟩ = some (.int .i64 0) := cell_sets_of hz1 rfl
  have y1 : w1.cell? ⟨g0, 1, none⟩ = some (.slice none 0 0) := cell_sets_of hz1 rfl
  have q0 := frozen_of_row w1 g0 0 _ _ hz1
  have q1 := frozen_of_row w1 g0 1 _ _ hz1
  have hr0 : (w1.setCells g0 0 [.int .i64 e.kind, e.lv]).heap[g0]? = some (.cells #[.int .i64 e.kind, e.lv] 69 (0, 0)) := heap_setCells_same g0 69 [.int .i64 e.kind, e.lv] 0 w1 [.int .i64 0, .slice none 0 0] hz1 (by simp)
  have hst := run_storeAt_mid (P := Tryd.prog) w1 g0 0 69 #[.int .i64 e.kind, e.lv] (there_all (cs := [.int .i64 0, .slice none 0 0]) hz1 0 2 (by simp)) (by rw [size_content]; rfl) (all_oneCell_toArray (cs := [.int .i64 e.kind, e.lv]) (by rw [hlv]; intro v hv; simp only [List.mem_cons, List.not_mem_nil, or_false] at hv; rcases hv with rfl | rfl <;> rfl))
  have HST := Lib.hid hst
  have HR0 := Lib.hid hr0
  have HLK := Lib.hid hlk
  have HHH := Lib.hid hH
  have HW0 := Lib.hid hw0
  have HG0 := Lib.hid hg0
  have HW1 := Lib.hid hw1
  have HLV := Lib.hid hlv
  have HLD := Lib.hid (show (Instr.loadAt 69 (.pointer (some ⟨e.blk, 1, none⟩))).run Tryd.prog w1 = .ok (.agg #[.int .i64 e.kind, e.lv]) w1 from run_loadAt_mid w1 e.blk 1 69 [.int .i64 e.kind, e.lv] _ (fun j u hu => by
    match j with
    | 0 => simp at hu; subst hu; exact e1
    | 1 => simp at hu; subst hu; rw [hlv]; exact e2
    | j + 2 => simp at hu) Tryd.underlying69 rfl (by rw [size_content]; rfl))
  have HKP : Hid (Keeps [c] w (w1.setCells g0 0 [.int .i64 e.kind, e.lv])) := Lib.hid (by
    rw [hw1]
    exact ((k0.mono (G := [c]) (by simp)).setCell (.inl (by simp)) _).setCells (.inr (by omega)) _ _)
  have HFN := Lib.hid (show CacheIn (w1.setCells g0 0 [.int .i64 e.kind, e.lv]) c bm { C with hits := wrap64 (C.hits + 1) } from hH.keep (fun j hj => heap_setCells_other _ _ _ (fun ej => by
    have : caF c bm { C with hits := wrap64 (C.hits + 1) } = caF c bm C := rfl
    rw [this] at hj
    have := h.lt j hj
    omega) _ _))
  clear h he hall hlv hw0 hg0 k0 h0 hfind hlk hroot hent hb1 hb2 hcl hel hz0 hw1 hH hoth hent1 hz1 hr0 hst
  go_enter Tryd.func65, Tryd.ntmps65
  go_upto_region 1 with fail
  rw [← HW0.out, ← HG0.out]
  go_upto_region 7 with (first | (refine wl_lookup rfl 110 (.tmp 11) (.tmp 12) false rfl ?_; refine ⟨_, _, HLK.out, ?_⟩; try simp only [Act.put, List.setIfInBounds_toArray, List.set_cons_zero, List.set_cons_succ, List.getElem_toArray, List.getElem_cons_zero, List.getElem_cons_succ]))
  rw [← HW1.out]
  go_wp2_with (first | (refine wl_load rfl 69 (.tmp 48) rfl ?_; refine ⟨_, _, HLD.out, ?_⟩; try simp only [Act.put, List.setIfInBounds_toArray, List.set_cons_zero, List.set_cons_succ, List.getElem_toArray, List.getElem_cons_zero, List.getElem_cons_succ]) | (refine wl_store rfl 69 (.tmp 4) (.tmp 49) rfl ?_; refine ⟨_, HST.out, ?_⟩; try simp only [Act.put, List.setIfInBounds_toArray, List.set_cons_zero, List.set_cons_succ, List.getElem_toArray, List.getElem_cons_zero, List.getElem_cons_succ]))
  exact bodyPost_ret (results_row2 (cs := [.int .i64 e.kind, e.lv]) rfl rfl rfl (rangeAt_all HR0.out) Tryd.underlying69 rfl (by rw [size_content]; rfl)) rfl ⟨rfl, HFN.out, HKP.out⟩
end Go.Proofs.YtojlojdkhegbkaaDoor
