/-
  The walk of ledgerlaw10.TreeNames: each call of package tree refuses a nil store.
-/
import Derived.Test.YtalkhddmjkefjaaGreatDoorOpen
import Derived.Test.YtalkhddmjkefjaaGreatDoorReg
import Derived.Test.YtalkhddmjkefjaaGreatDoorLive
namespace Go.Proofs.YtalkhddmjkefjaaGreatDoor
set_option linter.unusedVariables false
set_option linter.unusedSimpArgs false
open Go.RowKit

theorem begin_nil {w : World} (n : Int) :
    Calls Tryz.prog 9 #[.pointer none, .int .i64 n] w fun e w' => e = .returned (.tuple #[.pointer none, .int .i64 1]) ∧ w = w' := by
  go_enter Tryz.func9, Tryz.ntmps9
  go_wp2_with fail
  go_ret2
  exact ⟨rfl, rfl⟩
theorem count_nil {w : World} (n : Int) :
    Calls Tryz.prog 6 #[.pointer none, .int .i64 n] w fun e w' => e = .returned (.tuple #[.int .i64 0, .int .i64 1]) ∧ Keeps [] w w' := by
  go_enter Tryz.func6, Tryz.ntmps6
  go_wp2_with (go_at_call 9; refine (begin_nil n).mono ?_; rintro e w' ⟨rfl, rfl⟩)
  exact bodyPost_ret (v := .tuple #[.int .i64 0, .int .i64 1]) (by simp [results, Tryz.results6, go_sem]) rfl ⟨rfl, ((Keeps.refl _ _).alloc _).alloc _⟩
theorem cost_nil {w : World} (n : Int) (v : Value) :
    Calls Tryz.prog 7 #[.pointer none, .int .i64 n, v] w fun e w' => e = .returned (.tuple #[.int .i64 0, .int .i64 1]) ∧ Keeps [] w w' := by
  go_enter Tryz.func7, Tryz.ntmps7
  go_wp2_with (go_at_call 9; refine (begin_nil n).mono ?_; rintro e w' ⟨rfl, rfl⟩)
  exact bodyPost_ret (v := .tuple #[.int .i64 0, .int .i64 1]) (by simp [results, Tryz.results7, go_sem]) rfl ⟨rfl, ((Keeps.refl _ _).alloc _).alloc _⟩
theorem update_nil {w : World} (n : Int) (v : Value) :
    Calls Tryz.prog 8 #[.pointer none, .int .i64 n, v] w fun e w' => e = .returned (.tuple #[.int .i64 0, .int .i64 1]) ∧ Keeps [] w w' := by
  go_enter Tryz.func8, Tryz.ntmps8
  go_wp2_with fail
  refine (cost_nil n v).mono ?_
  rintro e w1 ⟨rfl, hk⟩
  have z1 : w1.heap[w.heap.size + 1]? = some (.cells #[.int .i64 0] 3 (0, 0)) := (hk.block _ (by simp) (by simp)).trans (by rw [heap_old_at (by simp), heap_new_at (by simp)])
  have z2 : w1.heap[w.heap.size + 1 + 1]? = some (.cells #[.int .i64 0] 23 (0, 0)) := (hk.block _ (by simp) (by simp)).trans (by rw [heap_new_at (by simp)])
  have c1 : w1.cell? ⟨w.heap.size + 1, 0, none⟩ = some (.int .i64 0) := by rw [cell_of_row w1 _ 0 _ _ _ z1]; rfl
  have c2 : w1.cell? ⟨w.heap.size + 1 + 1, 0, none⟩ = some (.int .i64 0) := by rw [cell_of_row w1 _ 0 _ _ _ z2]; rfl
  have f1 := frozen_of_row w1 _ 0 _ _ z1
  have f2 := frozen_of_row w1 _ 0 _ _ z2
  have hK : Keeps [] w w1 := ((((Keeps.refl [] w).alloc _).alloc _).alloc _).trans (G := []) hk (by simp)
  have l1 := World.block_lt_of_cell? w1 _ c1
  have l2 := World.block_lt_of_cell? w1 _ c2
  have hz := hK.size
  have HK := Lib.hid hK
  clear z1 z2 hK hk
  go_wp2_with fail
  refine bodyPost_ret (v := .tuple #[.int .i64 0, .int .i64 1]) (by simp [results, Tryz.results8, go_sem, *]) rfl ⟨rfl, (HK.out.setCell (.inr (by simp)) _).setCell (.inr (show w.heap.size ≤ w.heap.size + 1 + 1 by omega)) _⟩
theorem get_nil {w : World} (n : Int) (cs : Array Value) :
    Calls Tryz.prog 4 #[.pointer none, .int .i64 n, .agg cs] w fun e w' => e = .returned (.tuple #[.slice none 0 0, .bool false, .int .i64 1]) ∧ Keeps [] w w' := by
  go_enter Tryz.func4, Tryz.ntmps4
  go_wp2_with (go_at_call 9; refine (begin_nil n).mono ?_; rintro e w' ⟨rfl, rfl⟩)
  exact bodyPost_ret (v := .tuple #[.slice none 0 0, .bool false, .int .i64 1]) (by simp [results, Tryz.results4, go_sem]) rfl ⟨rfl, ((((Keeps.refl _ _).alloc _).alloc _).alloc _).alloc _⟩
theorem info_digest : (Tryz.prog.info? 28).map (fun i => (i.zero, i.size, i.bytes)) = some (some (.agg (Array.replicate 32 (.int .u8 0))), 32, 32) := by kernel_rfl
theorem size_digest : (Tryz.prog.info? 28).map (·.size) = some 32 := by kernel_rfl
def zChange : Value := .agg (Array.replicate 32 (.int .u8 0) ++ #[.bool false, .slice none 0 0])
theorem info_change : (Tryz.prog.info? 88).map (fun i => (i.zero, i.size, i.bytes)) = some (some zChange, 34, 64) := by kernel_rfl
attribute [irreducible] zChange
theorem digest_var (w : World) {Z cs : List Value} (hz : Z.length = 32) (hl : cs.length = 32) (h1 : ∀ v ∈ cs, v.oneCell' = true) {b : Nat} (hb : w.heap[b]? = some (.cells Z.toArray 28 (0, 0))) :
    (Instr.storeAt 28 (.pointer (some ⟨b, 0, none⟩)) (.agg cs.toArray)).run Tryz.prog w = .ok () (w.setCells b 0 cs) ∧ (w.setCells b 0 cs).heap[b]? = some (.cells cs.toArray 28 (0, 0)) := by
  have h := run_storeAt_mid (P := Tryz.prog) w b 0 28 cs.toArray (there_all hb 0 _ (by simp [hz, hl])) (by rw [size_digest]; simp [hl]) (all_oneCell_toArray h1)
  refine ⟨by simpa using h, ?_⟩
  have h2 := heap_setCells_same b 28 cs 0 w Z hb (by omega)
  rw [h2]
  simp [hl, hz]
theorem results_sum {fn : Func} {tmps : Array Value} {w : World} {s s2 b b2 : Nat} {cs : List Value} (h : fn.results = #[.cell s 28, .cell s2 23]) (hv : tmps.getD s undef = .pointer (some ⟨b, 0, none⟩)) (hu : tmps.getD s2 undef = .pointer (some ⟨b2, 0, none⟩))
    (hr : w.rangeAt b 0 cs) (hl : cs.length = 32) (hc : w.cell? ⟨b2, 0, none⟩ = some (.int .i64 1)) :
    (results fn tmps).run Tryz.prog w = .ok (.tuple #[.agg cs.toArray, .int .i64 1]) w := by
  have h1 := run_loadVar_mid w b 0 28 cs _ hr Tryz.underlying28 rfl (by rw [size_digest, hl])
  have h2 : (loadVar 23 ⟨b2, 0, none⟩).run Tryz.prog w = .ok (.int .i64 1) w := by simp [go_sem, hc]
  simp only [Array.getD_eq_getD_getElem?] at hv hu
  simp [results, h, hv, hu, h1, h2, asAddr]
theorem sum_nil {w : World} (n : Int) :
    Calls Tryz.prog 5 #[.pointer none, .int .i64 n] w fun e w' => ∃ Z : List Value, Z.length = 32 ∧ (∀ v ∈ Z, v.oneCell' = true) ∧ e = .returned (.tuple #[.agg Z.toArray, .int .i64 1]) ∧ Keeps [] w w' := by
  obtain ⟨Z, hZ⟩ : ∃ Z : List Value, Z = List.replicate 32 (.int .u8 0) := ⟨_, rfl⟩
  have hzl : Z.length = 32 := by rw [hZ]; simp
  have hz1 : ∀ v ∈ Z, v.oneCell' = true := by rw [hZ]; intro v hv; rw [List.eq_of_mem_replicate hv]; rfl
  have hal := fun (w : World) => run_alloc (P := Tryz.prog) w info_digest
  rw [show (Value.agg (Array.replicate 32 (Value.int .u8 0))).cells = Z.toArray from by rw [hZ]; rfl] at hal
  obtain ⟨w0, hw0⟩ : ∃ w0, w0 = (w.alloc (.cells Z.toArray 28 (0, 0))).alloc (.cells #[.int .i64 0] 23 (0, 0)) := ⟨_, rfl⟩
  have k0 : Keeps [] w w0 := by rw [hw0]; exact ((Keeps.refl _ _).alloc _).alloc _
  have x1 : w0.heap[w.heap.size]? = some (.cells Z.toArray 28 (0, 0)) := by rw [hw0, heap_old_at (by simp), heap_new_at rfl]
  have x2 : w0.heap[w.heap.size + 1]? = some (.cells #[.int .i64 0] 23 (0, 0)) := by rw [hw0, heap_new_at (by simp)]
  obtain ⟨hst, hh⟩ := digest_var w0 hzl hzl hz1 x1
  obtain ⟨w1, hw1⟩ : ∃ w1, w1 = w0.setCells w.heap.size 0 Z := ⟨_, rfl⟩
  have k1 : Keeps [] w w1 := by rw [hw1]; exact k0.setCells (.inr (Nat.le_refl _)) _ _
  rw [← hw1] at hst hh
  have x3 : w1.heap[w.heap.size + 1]? = some (.cells #[.int .i64 0] 23 (0, 0)) := by rw [hw1, heap_setCells_other _ _ _ (by omega)]; exact x2
  have c2 : w1.cell? ⟨w.heap.size + 1, 0, none⟩ = some (.int .i64 0) := by rw [cell_of_row w1 _ 0 _ _ _ x3]; rfl
  have f2 := frozen_of_row w1 _ 0 _ _ x3
  have hx4 : (w1.setCell ⟨w.heap.size + 1, 0, none⟩ (.int .i64 1)).heap[w.heap.size]? = some (.cells Z.toArray 28 (0, 0)) := (Below.heap_setCell _ _ _ _ (by simp)).trans hh
  have hx5 := heap_setCell_same w1 (w.heap.size + 1) 0 _ _ (.int .i64 1) x3
  have HAL := Lib.hid hal
  have HW0 := Lib.hid hw0
  have HST := Lib.hid hst
  have HR := Lib.hid (rangeAt_all x1)
  have HSZ := Lib.hid (show (Tryz.prog.info? 28).map (·.size) = some Z.length by rw [size_digest, hzl])
  have HZL := Lib.hid hzl
  have HZ1 := Lib.hid hz1
  have HX4 := Lib.hid hx4
  have HX5 := Lib.hid hx5
  have HK1 := Lib.hid k1
  clear hZ hzl hz1 hal hw0 x1 x2 hst hh hw1 k0 k1 x3 hx4 hx5
  go_enter Tryz.func5, Tryz.ntmps5
  go_wp2_with (refine wl_alloc rfl 28 rfl ?_; refine ⟨_, _, HAL.out _, ?_⟩; try simp only [Act.put, List.setIfInBounds_toArray, List.set_cons_zero, List.set_cons_succ, List.getElem_toArray, List.getElem_cons_zero, List.getElem_cons_succ])
  rw [← HW0.out]
  refine (begin_nil n).mono ?_
  rintro e w' ⟨rfl, rfl⟩
  go_wp2_with (first | (refine wpList_load_mid rfl 28 (.tmp 4) rfl w.heap.size 0 (by rfl) Z _ HR.out Tryz.underlying28 rfl HSZ.out ?_; try simp only [Act.put, List.setIfInBounds_toArray, List.set_cons_zero, List.set_cons_succ, List.getElem_toArray, List.getElem_cons_zero, List.getElem_cons_succ]) | (refine wl_store rfl 28 (.tmp 4) (.tmp 19) rfl ?_; refine ⟨_, HST.out, ?_⟩; try simp only [Act.put, List.setIfInBounds_toArray, List.set_cons_zero, List.set_cons_succ, List.getElem_toArray, List.getElem_cons_zero, List.getElem_cons_succ]))
  refine bodyPost_ret (results_sum (b := w.heap.size) (b2 := w.heap.size + 1) rfl rfl rfl (rangeAt_all HX4.out) HZL.out (by rw [cell_of_row _ _ 0 _ _ _ HX5.out]; rfl)) rfl ⟨Z, HZL.out, HZ1.out, rfl, HK1.out.setCell (.inr (by simp)) _⟩
theorem make_changes (w : World) : ∃ o : Obj, (Instr.makeSlice 34 (.int .i64 5000) (.int .i64 5000)).run Tryz.prog w = .ok (.slice (some ⟨w.heap.size, 0, none⟩) 5000 5000) (w.alloc o) := by
  obtain ⟨i0, hi, hz0, hz1, hz2⟩ := info_parts info_change
  exact ⟨_, run_make (P := Tryz.prog) w 34 88 i0 _ Tryz.underlying34 hi hz0 .i64 .i64 5000 5000 (by omega) (by omega) (by rw [hz2]; omega) (by omega)⟩
theorem names_walk {w : World} :
    Calls Tryz.prog 3 #[] w fun e w' => e = .returned (.bool true) ∧ Below w.heap.size w w' := by
  have hal := fun (w : World) => run_alloc (P := Tryz.prog) w info_digest
  obtain ⟨ZD, hZD⟩ : ∃ ZD : List Value, ZD = List.replicate 32 (.int .u8 0) := ⟨_, rfl⟩
  have hzl : ZD.length = 32 := by rw [hZD]; simp
  rw [show (Value.agg (Array.replicate 32 (Value.int .u8 0))).cells = ZD.toArray from by rw [hZD]; rfl] at hal
  have HAL := Lib.hid hal
  clear hZD hal
  go_enter Tryz.func3, Tryz.ntmps3
  go_wp2_with fail
  refine (get_nil (-1) _).mono ?_
  rintro e w1 ⟨rfl, hk1⟩
  go_wp2_with fail
  refine (sum_nil 0).mono ?_
  rintro e w2 ⟨Z, hz, h1, rfl, hk2⟩
  have k2 := hk1.trans (G := []) hk2 (by simp)
  have x1 : (w2.alloc (.cells ZD.toArray 28 (0, 0))).heap[w2.heap.size]? = some (.cells ZD.toArray 28 (0, 0)) := heap_new_at rfl
  obtain ⟨hst, hh⟩ := digest_var _ hzl hz h1 x1
  obtain ⟨w3, hw3⟩ : ∃ w3, w3 = (w2.alloc (.cells ZD.toArray 28 (0, 0))).setCells w2.heap.size 0 Z := ⟨_, rfl⟩
  rw [← hw3] at hst
  have k3 : Keeps [] w w3 := by rw [hw3]; exact (k2.alloc _).setCells (.inr k2.size) _ _
  have HST := Lib.hid hst
  have HK3 := Lib.hid k3
  clear hst hh hw3 k3 x1 hz h1 hk1 hk2 k2 hzl
  go_wp2_with (first | (refine wl_alloc rfl 28 rfl ?_; refine ⟨_, _, HAL.out _, ?_⟩; try simp only [Act.put, List.setIfInBounds_toArray, List.set_cons_zero, List.set_cons_succ, List.getElem_toArray, List.getElem_cons_zero, List.getElem_cons_succ]) | (refine wl_store rfl 28 (.tmp 4) (.tmp 20) rfl ?_; refine ⟨_, HST.out, ?_⟩; try simp only [Act.put, List.setIfInBounds_toArray, List.set_cons_zero, List.set_cons_succ, List.getElem_toArray, List.getElem_cons_zero, List.getElem_cons_succ]))
  refine (count_nil 0).mono ?_
  rintro e w4 ⟨rfl, hk4⟩
  have HK4 := Lib.hid (HK3.out.trans (G := []) hk4 (by simp))
  obtain ⟨oc, hoc⟩ := make_changes w4
  obtain ⟨w5, hw5⟩ : ∃ w5, w5 = w4.alloc oc := ⟨_, rfl⟩
  rw [← hw5] at hoc
  have HK5 := Lib.hid (show Keeps [] w w5 from by rw [hw5]; exact HK4.out.alloc _)
  have HOC := Lib.hid hoc
  clear hk4 hoc hw5
  go_wp2_with (refine wl_makeSlice rfl 34 (.const (.int .i64 5000)) (.const (.int .i64 5000)) rfl ?_; refine ⟨_, _, HOC.out, ?_⟩; try simp only [Act.put, List.setIfInBounds_toArray, List.set_cons_zero, List.set_cons_succ, List.getElem_toArray, List.getElem_cons_zero, List.getElem_cons_succ])
  refine (cost_nil 0 _).mono ?_
  rintro e w6 ⟨rfl, hk6⟩
  have HK6 := Lib.hid (HK5.out.trans (G := []) hk6 (by simp))
  clear hk6
  go_wp2_with fail
  refine (update_nil 0 _).mono ?_
  rintro e w7 ⟨rfl, hk7⟩
  have HK7 := Lib.hid (HK6.out.trans (G := []) hk7 (by simp))
  clear hk7
  go_wp2_with fail
  go_ret
  exact ⟨rfl, HK7.out.below0 (Nat.le_refl _)⟩
end Go.Proofs.YtalkhddmjkefjaaGreatDoor
