/-
  The document's answer for layer 12: Decode.
-/
import Derived.Test.YtnobhfpjchofpaaCq
import Derived.Test.YtnobhfpjchofpaaCn
namespace Go.Proofs.Ytnobhfpjchofpaa
set_option linter.unusedVariables false
set_option linter.unusedSimpArgs false
open Go.RowKit

def chunkAt (s : List UInt8) (i : Nat) : List UInt8 := (s.drop (32 * i)).take 32
def chunksOf (s : List UInt8) (k : Nat) : List (List UInt8) := (List.range k).map (chunkAt s)
theorem chunksOf_succ (s : List UInt8) (k : Nat) : chunksOf s (k + 1) = chunksOf s k ++ [chunkAt s k] := by simp [chunksOf, List.range_succ]
theorem chunkAt_len {s : List UInt8} {k : Nat} (h : 32 * k + 32 ≤ s.length) : (chunkAt s k).length = 32 := by unfold chunkAt; rw [List.length_take, List.length_drop]; omega
theorem chunksOf_len {s : List UInt8} {k : Nat} (h : 32 * k ≤ s.length) : ∀ q ∈ chunksOf s k, q.length = 32 := by
  intro q hq
  obtain ⟨i, hi, rfl⟩ := List.mem_map.1 hq
  have := List.mem_range.1 hi
  exact chunkAt_len (by omega)
theorem chunksOf_flatten (s : List UInt8) : ∀ k, 32 * k ≤ s.length → (chunksOf s k).flatten = s.take (32 * k) := by
  intro k
  induction k with
  | zero => intro _; simp [chunksOf]
  | succ k ih =>
    intro h
    rw [chunksOf_succ, List.flatten_append, ih (by omega), show 32 * (k + 1) = 32 * k + 32 from by omega, List.take_add]
    simp [chunkAt]
theorem pf_setbit {p : Pf} (vv sv : Value) {k : Nat} (hk : k < p.bits.length) (b : UInt8) : (pfCells p vv sv).toArray.setIfInBounds (2 + k) (B b) = (pfCells ⟨p.found, p.val, p.bits.set k b, p.sums⟩ vv sv).toArray := by
  rw [List.setIfInBounds_toArray]
  congr 1
  unfold pfCells
  rw [show 2 + k = k + 1 + 1 from by omega, List.set_cons_succ, List.set_cons_succ, List.set_append_left _ _ (by rw [List.length_map]; exact hk), List.map_set]
theorem part_set {bs z : List UInt8} {k : Nat} {b : UInt8} (hz : z.length = bs.length) (hb : bs[k]? = some b) : (bs.take k ++ z.drop k).set k b = bs.take (k + 1) ++ z.drop (k + 1) := by
  have hk : k < bs.length := (List.getElem?_eq_some_iff.1 hb).1
  rw [List.set_append_right _ _ (by rw [List.length_take]; omega), List.length_take, show k - min k bs.length = 0 from by omega, List.drop_eq_getElem_cons (by omega), List.set_cons_zero, List.take_add_one, hb]
  simp

set_option maxRecDepth 100000 in
set_option maxHeartbeats 3200000 in
theorem refdec_nil {w : World} {v : Value} {l : List UInt8} (hv : BytesAt w v l) (hl : l = []) :
    Calls Try.prog 25 #[v] w fun e w' => ∃ u, e = .returned (.tuple #[u, .int .i64 120]) ∧ PfIn w' u pf0 ∧ Keeps [] w w' := by
  subst hl
  obtain ⟨a, c, rfl, hc, hm⟩ := hv.form
  obtain ⟨Z, hZ⟩ : ∃ Z, Z = (pfCells pf0 (.slice none 0 0) (.slice none 0 0)) := ⟨_, rfl⟩
  have hal := fun (w : World) => run_alloc (P := Try.prog) w info_proof
  rw [zProof_cells, show (⟨false, [], List.replicate 32 0, []⟩ : Pf) = pf0 from rfl, ← hZ] at hal
  obtain ⟨w0, hw0⟩ : ∃ w0, w0 = (w.alloc (.cells Z.toArray 30 (0, 0))).alloc (.cells Z.toArray 30 (0, 0)) := ⟨_, rfl⟩
  have x0 : w0.heap[w.heap.size]? = some (.cells Z.toArray 30 (0, 0)) := by rw [hw0, heap_old_at (by simp), heap_new_at rfl]
  have x1 : w0.heap[w.heap.size + 1]? = some (.cells Z.toArray 30 (0, 0)) := by rw [hw0, heap_new_at (by simp)]
  have K0 : Keeps [] w w0 := by rw [hw0]; exact ((Keeps.refl _ _).alloc _).alloc _
  have s1 : (w.alloc (.cells Z.toArray 30 (0, 0))).heap.size = w.heap.size + 1 := by simp
  have hzl : Z.length = 35 := by rw [hZ]; exact pf_length (by simp [pf0, zero32]) _ _
  have hz1 : ∀ v ∈ Z, v.oneCell' = true := by rw [hZ]; exact pf_ones
  have hbz := run_build_zero
  rw [← hZ] at hbz
  unfold maxLen at hm
  have HBZ := Lib.hid hbz
  have HZ := Lib.hid hZ
  have HAL := Lib.hid hal
  have HW := Lib.hid hw0
  have S1 := Lib.hid s1
  have X0 := Lib.hid x0
  have X1 := Lib.hid x1
  have HZL := Lib.hid hzl
  have HZ1 := Lib.hid hz1
  have y0 := lt_of_heap x0
  have y1 := lt_of_heap x1
  have HV := Lib.hid hv
  clear hZ hal hw0 s1 x1 hv hzl hz1 hbz x0
  go_enter Try.func25, Try.ntmps25
  go_upto_region 2 with (refine wl_alloc rfl 30 rfl ?_; refine ⟨_, _, HAL.out _, ?_⟩; try simp only [Act.put, List.setIfInBounds_toArray, List.set_cons_zero, List.set_cons_succ, List.getElem_toArray, List.getElem_cons_zero, List.getElem_cons_succ])
  rw [S1.out, ← HW.out]
  have hst := run_store_pf X0.out HZL.out HZL.out HZ1.out
  have hall := store_all (cs := Z) X0.out rfl
  have HST := Lib.hid hst
  have HALL := Lib.hid hall
  clear hst hall
  go_wp2_with (first | (refine wl_build rfl 30 #[] #[] rfl (by simp [Act.eval]) ?_; refine ⟨_, _, HBZ.out _, ?_⟩; try simp only [Act.put, List.setIfInBounds_toArray, List.set_cons_zero, List.set_cons_succ, List.getElem_toArray, List.getElem_cons_zero, List.getElem_cons_succ]) | (refine wl_store rfl 30 (.tmp 2) (.tmp 57) rfl ?_; refine ⟨_, HST.out, ?_⟩; try simp only [Act.put, List.setIfInBounds_toArray, List.set_cons_zero, List.set_cons_succ, List.getElem_toArray, List.getElem_cons_zero, List.getElem_cons_succ]))
  refine bodyPost_ret (results_pf2 (b := w.heap.size) rfl rfl rfl (rangeAt_all HALL.out) HZL.out) rfl ⟨_, rfl, ⟨_, _, by rw [HZ.out], BytesAt_nil _, .inl ⟨rfl, none, 0, rfl, by simp [maxLen]⟩, by simp [pf0, zero32], by simp [pf0]⟩, (K0).setCells (.inr (Nat.le_refl _)) 0 _⟩
set_option maxRecDepth 100000 in
set_option maxHeartbeats 3200000 in
theorem refdec_other {w : World} {v : Value} {l : List UInt8} (hv : BytesAt w v l) {m : UInt8} {r : List UInt8} (hl : l = m :: r) (hm0 : m ≠ 0) (hm1 : m ≠ 1) :
    Calls Try.prog 25 #[v] w fun e w' => ∃ u, e = .returned (.tuple #[u, .int .i64 120]) ∧ PfIn w' u pf0 ∧ Keeps [] w w' := by
  subst hl
  have q0 : m.toNat ≠ 0 := fun e => hm0 (UInt8.toNat_inj.1 e)
  have q1 : m.toNat ≠ 1 := fun e => hm1 (UInt8.toNat_inj.1 e)
  have g0 : ((m.toNat : Int) != 0) = true := by simp; omega
  have g1 : ((m.toNat : Int) == 1) = false := by simp; omega
  obtain ⟨a, c, rfl, hc, hm⟩ := hv.form
  obtain ⟨Z, hZ⟩ : ∃ Z, Z = (pfCells pf0 (.slice none 0 0) (.slice none 0 0)) := ⟨_, rfl⟩
  have hal := fun (w : World) => run_alloc (P := Try.prog) w info_proof
  rw [zProof_cells, show (⟨false, [], List.replicate 32 0, []⟩ : Pf) = pf0 from rfl, ← hZ] at hal
  obtain ⟨w0, hw0⟩ : ∃ w0, w0 = (w.alloc (.cells Z.toArray 30 (0, 0))).alloc (.cells Z.toArray 30 (0, 0)) := ⟨_, rfl⟩
  have x0 : w0.heap[w.heap.size]? = some (.cells Z.toArray 30 (0, 0)) := by rw [hw0, heap_old_at (by simp), heap_new_at rfl]
  have x1 : w0.heap[w.heap.size + 1]? = some (.cells Z.toArray 30 (0, 0)) := by rw [hw0, heap_new_at (by simp)]
  have K0 : Keeps [] w w0 := by rw [hw0]; exact ((Keeps.refl _ _).alloc _).alloc _
  have s1 : (w.alloc (.cells Z.toArray 30 (0, 0))).heap.size = w.heap.size + 1 := by simp
  have hzl : Z.length = 35 := by rw [hZ]; exact pf_length (by simp [pf0, zero32]) _ _
  have hz1 : ∀ v ∈ Z, v.oneCell' = true := by rw [hZ]; exact pf_ones
  have hbz := run_build_zero
  rw [← hZ] at hbz
  unfold maxLen at hm
  have HBZ := Lib.hid hbz
  have HZ := Lib.hid hZ
  have HAL := Lib.hid hal
  have HW := Lib.hid hw0
  have S1 := Lib.hid s1
  have X0 := Lib.hid x0
  have X1 := Lib.hid x1
  have HZL := Lib.hid hzl
  have HZ1 := Lib.hid hz1
  have y0 := lt_of_heap x0
  have y1 := lt_of_heap x1
  have HV := Lib.hid hv
  clear hZ hal hw0 s1 x1 hv hzl hz1 hbz x0
  obtain ⟨g, o, rfl, hg, hr⟩ := HV.out.at (by simp)
  have c0 := range_byte (w' := w0) hr (K0.block g hg (by simp)) (k := 0) rfl
  rw [Nat.add_zero] at c0
  clear hr
  by_cases h3 : 3 ≤ (m :: r).length
  · have g3 : (3 : Int) ≤ ((m :: r).length : Int) := by omega
    obtain ⟨n, hn⟩ : ∃ n, n = (m :: r).length := ⟨_, rfl⟩
    rw [← hn] at g3 ⊢
    have n0 : 0 < n := by omega
    have HN := Lib.hid hn
    clear hn h3
    go_enter Try.func25, Try.ntmps25
    go_upto_region 2 with (refine wl_alloc rfl 30 rfl ?_; refine ⟨_, _, HAL.out _, ?_⟩; try simp only [Act.put, List.setIfInBounds_toArray, List.set_cons_zero, List.set_cons_succ, List.getElem_toArray, List.getElem_cons_zero, List.getElem_cons_succ])
    rw [S1.out, ← HW.out]
    have hst := run_store_pf X0.out HZL.out HZL.out HZ1.out
    have hall := store_all (cs := Z) X0.out rfl
    have HST := Lib.hid hst
    have HALL := Lib.hid hall
    clear hst hall
    go_wp2_with (first | (refine wl_build rfl 30 #[] #[] rfl (by simp [Act.eval]) ?_; refine ⟨_, _, HBZ.out _, ?_⟩; try simp only [Act.put, List.setIfInBounds_toArray, List.set_cons_zero, List.set_cons_succ, List.getElem_toArray, List.getElem_cons_zero, List.getElem_cons_succ]) | (refine wl_store rfl 30 (.tmp 2) (.tmp 57) rfl ?_; refine ⟨_, HST.out, ?_⟩; try simp only [Act.put, List.setIfInBounds_toArray, List.set_cons_zero, List.set_cons_succ, List.getElem_toArray, List.getElem_cons_zero, List.getElem_cons_succ]))
    refine bodyPost_ret (results_pf2 (b := w.heap.size) rfl rfl rfl (rangeAt_all HALL.out) HZL.out) rfl ⟨_, rfl, ⟨_, _, by rw [HZ.out], BytesAt_nil _, .inl ⟨rfl, none, 0, rfl, by simp [maxLen]⟩, by simp [pf0, zero32], by simp [pf0]⟩, (K0).setCells (.inr (Nat.le_refl _)) 0 _⟩
  · obtain ⟨n, hn⟩ : ∃ n, n = (m :: r).length := ⟨_, rfl⟩
    have n0 : 0 < n := by rw [hn]; simp
    rw [← hn] at h3 ⊢
    have g3 : ¬ (3 : Int) ≤ (n : Int) := by omega
    have g4 : ((n : Int) == 0) = false := by simp; omega
    have HN := Lib.hid hn
    clear hn h3
    go_enter Try.func25, Try.ntmps25
    go_upto_region 2 with (refine wl_alloc rfl 30 rfl ?_; refine ⟨_, _, HAL.out _, ?_⟩; try simp only [Act.put, List.setIfInBounds_toArray, List.set_cons_zero, List.set_cons_succ, List.getElem_toArray, List.getElem_cons_zero, List.getElem_cons_succ])
    rw [S1.out, ← HW.out]
    have hst := run_store_pf X0.out HZL.out HZL.out HZ1.out
    have hall := store_all (cs := Z) X0.out rfl
    have HST := Lib.hid hst
    have HALL := Lib.hid hall
    clear hst hall
    go_wp2_with (first | (refine wl_build rfl 30 #[] #[] rfl (by simp [Act.eval]) ?_; refine ⟨_, _, HBZ.out _, ?_⟩; try simp only [Act.put, List.setIfInBounds_toArray, List.set_cons_zero, List.set_cons_succ, List.getElem_toArray, List.getElem_cons_zero, List.getElem_cons_succ]) | (refine wl_store rfl 30 (.tmp 2) (.tmp 57) rfl ?_; refine ⟨_, HST.out, ?_⟩; try simp only [Act.put, List.setIfInBounds_toArray, List.set_cons_zero, List.set_cons_succ, List.getElem_toArray, List.getElem_cons_zero, List.getElem_cons_succ]))
    refine bodyPost_ret (results_pf2 (b := w.heap.size) rfl rfl rfl (rangeAt_all HALL.out) HZL.out) rfl ⟨_, rfl, ⟨_, _, by rw [HZ.out], BytesAt_nil _, .inl ⟨rfl, none, 0, rfl, by simp [maxLen]⟩, by simp [pf0, zero32], by simp [pf0]⟩, (K0).setCells (.inr (Nat.le_refl _)) 0 _⟩
set_option maxRecDepth 100000 in
set_option maxHeartbeats 3200000 in
theorem refdec_cut {w : World} {v : Value} {l : List UInt8} (hv : BytesAt w v l) {r : List UInt8} (hl : l = 1 :: r) (hr2 : r.length < 2) :
    Calls Try.prog 25 #[v] w fun e w' => ∃ u, e = .returned (.tuple #[u, .int .i64 120]) ∧ PfIn w' u pf0 ∧ Keeps [] w w' := by
  subst hl
  obtain ⟨a, c, rfl, hc, hm⟩ := hv.form
  obtain ⟨Z, hZ⟩ : ∃ Z, Z = (pfCells pf0 (.slice none 0 0) (.slice none 0 0)) := ⟨_, rfl⟩
  have hal := fun (w : World) => run_alloc (P := Try.prog) w info_proof
  rw [zProof_cells, show (⟨false, [], List.replicate 32 0, []⟩ : Pf) = pf0 from rfl, ← hZ] at hal
  obtain ⟨w0, hw0⟩ : ∃ w0, w0 = (w.alloc (.cells Z.toArray 30 (0, 0))).alloc (.cells Z.toArray 30 (0, 0)) := ⟨_, rfl⟩
  have x0 : w0.heap[w.heap.size]? = some (.cells Z.toArray 30 (0, 0)) := by rw [hw0, heap_old_at (by simp), heap_new_at rfl]
  have x1 : w0.heap[w.heap.size + 1]? = some (.cells Z.toArray 30 (0, 0)) := by rw [hw0, heap_new_at (by simp)]
  have K0 : Keeps [] w w0 := by rw [hw0]; exact ((Keeps.refl _ _).alloc _).alloc _
  have s1 : (w.alloc (.cells Z.toArray 30 (0, 0))).heap.size = w.heap.size + 1 := by simp
  have hzl : Z.length = 35 := by rw [hZ]; exact pf_length (by simp [pf0, zero32]) _ _
  have hz1 : ∀ v ∈ Z, v.oneCell' = true := by rw [hZ]; exact pf_ones
  have hbz := run_build_zero
  rw [← hZ] at hbz
  unfold maxLen at hm
  have HBZ := Lib.hid hbz
  have HZ := Lib.hid hZ
  have HAL := Lib.hid hal
  have HW := Lib.hid hw0
  have S1 := Lib.hid s1
  have X0 := Lib.hid x0
  have X1 := Lib.hid x1
  have HZL := Lib.hid hzl
  have HZ1 := Lib.hid hz1
  have y0 := lt_of_heap x0
  have y1 := lt_of_heap x1
  have HV := Lib.hid hv
  clear hZ hal hw0 s1 x1 hv hzl hz1 hbz x0
  obtain ⟨g, o, rfl, hg, hr⟩ := HV.out.at (by simp)
  have c0 := range_byte (w' := w0) hr (K0.block g hg (by simp)) (k := 0) rfl
  rw [Nat.add_zero] at c0
  clear hr
  obtain ⟨n, hn⟩ : ∃ n, n = (1 :: r : List UInt8).length := ⟨_, rfl⟩
  have n0 : 0 < n := by rw [hn]; simp
  have n3 : n < 3 := by rw [hn]; simp; omega
  rw [← hn]
  have g3 : ¬ (3 : Int) ≤ (n : Int) := by omega
  have g4 : ((n : Int) == 0) = false := by simp; omega
  have c0' : w0.cell? ⟨g, o, none⟩ = some (.int .u8 1) := c0
  have HN := Lib.hid hn
  clear hn c0
  go_enter Try.func25, Try.ntmps25
  go_upto_region 2 with (refine wl_alloc rfl 30 rfl ?_; refine ⟨_, _, HAL.out _, ?_⟩; try simp only [Act.put, List.setIfInBounds_toArray, List.set_cons_zero, List.set_cons_succ, List.getElem_toArray, List.getElem_cons_zero, List.getElem_cons_succ])
  rw [S1.out, ← HW.out]
  have hst := run_store_pf X0.out HZL.out HZL.out HZ1.out
  have hall := store_all (cs := Z) X0.out rfl
  have HST := Lib.hid hst
  have HALL := Lib.hid hall
  clear hst hall
  go_wp2_with (first | (refine wl_build rfl 30 #[] #[] rfl (by simp [Act.eval]) ?_; refine ⟨_, _, HBZ.out _, ?_⟩; try simp only [Act.put, List.setIfInBounds_toArray, List.set_cons_zero, List.set_cons_succ, List.getElem_toArray, List.getElem_cons_zero, List.getElem_cons_succ]) | (refine wl_store rfl 30 (.tmp 2) (.tmp 57) rfl ?_; refine ⟨_, HST.out, ?_⟩; try simp only [Act.put, List.setIfInBounds_toArray, List.set_cons_zero, List.set_cons_succ, List.getElem_toArray, List.getElem_cons_zero, List.getElem_cons_succ]))
  refine bodyPost_ret (results_pf2 (b := w.heap.size) rfl rfl rfl (rangeAt_all HALL.out) HZL.out) rfl ⟨_, rfl, ⟨_, _, by rw [HZ.out], BytesAt_nil _, .inl ⟨rfl, none, 0, rfl, by simp [maxLen]⟩, by simp [pf0, zero32], by simp [pf0]⟩, (K0).setCells (.inr (Nat.le_refl _)) 0 _⟩
set_option maxRecDepth 100000 in
set_option maxHeartbeats 3200000 in
theorem refdec_big {w : World} {v : Value} {l : List UInt8} (hv : BytesAt w v l) {x y : UInt8} {t : List UInt8} (hl : l = 1 :: x :: y :: t) {n : Nat} (hn : n = x.toNat + 256 * y.toNat) (hb : 128 < n) :
    Calls Try.prog 25 #[v] w fun e w' => ∃ u, e = .returned (.tuple #[u, .int .i64 120]) ∧ PfIn w' u pf0 ∧ Keeps [] w w' := by
  subst hl
  have HM := Lib.hid hn
  have hn2 : n ≤ 65535 + 255 := by have := x.toNat_lt; have := y.toNat_lt; omega
  clear hn
  obtain ⟨a, c, rfl, hc, hm⟩ := hv.form
  obtain ⟨Z, hZ⟩ : ∃ Z, Z = (pfCells pf0 (.slice none 0 0) (.slice none 0 0)) := ⟨_, rfl⟩
  have hal := fun (w : World) => run_alloc (P := Try.prog) w info_proof
  rw [zProof_cells, show (⟨false, [], List.replicate 32 0, []⟩ : Pf) = pf0 from rfl, ← hZ] at hal
  obtain ⟨w0, hw0⟩ : ∃ w0, w0 = (w.alloc (.cells Z.toArray 30 (0, 0))).alloc (.cells Z.toArray 30 (0, 0)) := ⟨_, rfl⟩
  have x0 : w0.heap[w.heap.size]? = some (.cells Z.toArray 30 (0, 0)) := by rw [hw0, heap_old_at (by simp), heap_new_at rfl]
  have x1 : w0.heap[w.heap.size + 1]? = some (.cells Z.toArray 30 (0, 0)) := by rw [hw0, heap_new_at (by simp)]
  have K0 : Keeps [] w w0 := by rw [hw0]; exact ((Keeps.refl _ _).alloc _).alloc _
  have s1 : (w.alloc (.cells Z.toArray 30 (0, 0))).heap.size = w.heap.size + 1 := by simp
  have hzl : Z.length = 35 := by rw [hZ]; exact pf_length (by simp [pf0, zero32]) _ _
  have hz1 : ∀ v ∈ Z, v.oneCell' = true := by rw [hZ]; exact pf_ones
  have hbz := run_build_zero
  rw [← hZ] at hbz
  unfold maxLen at hm
  have HBZ := Lib.hid hbz
  have HZ := Lib.hid hZ
  have HAL := Lib.hid hal
  have HW := Lib.hid hw0
  have S1 := Lib.hid s1
  have X0 := Lib.hid x0
  have X1 := Lib.hid x1
  have HZL := Lib.hid hzl
  have HZ1 := Lib.hid hz1
  have y0 := lt_of_heap x0
  have y1 := lt_of_heap x1
  have HV := Lib.hid hv
  clear hZ hal hw0 s1 x1 hv hzl hz1 hbz x0
  obtain ⟨g, o, rfl, hg, hr⟩ := HV.out.at (by simp)
  have c0 := range_byte (w' := w0) hr (K0.block g hg (by simp)) (k := 0) rfl
  have c1 := range_byte (w' := w0) hr (K0.block g hg (by simp)) (k := 1) rfl
  have c2 := range_byte (w' := w0) hr (K0.block g hg (by simp)) (k := 2) rfl
  rw [Nat.add_zero] at c0
  have c0' : w0.cell? ⟨g, o, none⟩ = some (.int .u8 1) := c0
  have hx8 := x.toNat_lt
  have hy8 := y.toNat_lt
  obtain ⟨N, hN⟩ : ∃ N, N = (1 :: x :: y :: t : List UInt8).length := ⟨_, rfl⟩
  have N3 : N = 3 + t.length := by rw [hN]; simp; omega
  rw [← hN] at hc ⊢
  have g3 : (3 : Int) ≤ (N : Int) := by omega
  have n0 : 0 < N := by omega
  have n1 : (1 : Int) < (N : Int) := by omega
  have n2 : (2 : Int) < (N : Int) := by omega
  have HNL := Lib.hid N3
  have HNN := Lib.hid hN
  have HR := Lib.hid hr
  clear c0 hN N3 hr
  go_enter Try.func25, Try.ntmps25
  go_upto_region 2 with (refine wl_alloc rfl 30 rfl ?_; refine ⟨_, _, HAL.out _, ?_⟩; try simp only [Act.put, List.setIfInBounds_toArray, List.set_cons_zero, List.set_cons_succ, List.getElem_toArray, List.getElem_cons_zero, List.getElem_cons_succ])
  rw [S1.out, ← HW.out]
  go_upto_region 4 with fail
  have hw1 : IntKind.i64.wrap (x.toNat : Int) = (x.toNat : Int) := IntWalk.i64_in _ (by omega)
  have hw2 : IntKind.i64.wrap (y.toNat : Int) = (y.toNat : Int) := IntWalk.i64_in _ (by omega)
  have hw3 : IntKind.i64.wrap (256 * (y.toNat : Int)) = 256 * (y.toNat : Int) := IntWalk.i64_in _ (by omega)
  have hw4 : IntKind.i64.wrap ((x.toNat : Int) + 256 * (y.toNat : Int)) = (n : Int) := by
    rw [IntWalk.i64_in _ (by omega), HM.out]
    omega
  refine wp_region_held_drew (S := (fun w' => (w'.cell? ⟨g, o + 1, none⟩ = some (.int .u8 x.toNat) ∧ w'.cell? ⟨g, o + 2, none⟩ = some (.int .u8 y.toNat)) ∧ Keeps [] w0 w')) (by kernel_rfl) ?_ (fun hHeld => ?_)
  · exact ⟨⟨c1, c2⟩, (Keeps.refl _ _).drew⟩
  refine' wpAnyH_take (i := 0) (v := _) rfl (by kernel_rfl) (by kernel_rfl) (by kernel_rfl) (fun _ _ _ h => h) (Or.inl ⟨by rfl, ?_⟩) (by assumption) ?_
  rotate_left 1
  · (intro w0 hSw; (try dsimp only at hSw); go_split_ands; go_simp; (try with_reducible rfl))
  try simp only [Act.put, List.setIfInBounds_toArray, List.set_cons_zero, List.set_cons_succ, List.getElem_toArray, List.getElem_cons_zero, List.getElem_cons_succ]
  refine' wpAnyH_take (i := 1) (v := _) rfl (by kernel_rfl) (by kernel_rfl) (by kernel_rfl) (fun _ _ _ h => h) (Or.inl ⟨by rfl, ?_⟩) (by assumption) ?_
  rotate_left 1
  · (intro w0 hSw; (try dsimp only at hSw); go_split_ands; go_simp; (try with_reducible rfl))
  try simp only [Act.put, List.setIfInBounds_toArray, List.set_cons_zero, List.set_cons_succ, List.getElem_toArray, List.getElem_cons_zero, List.getElem_cons_succ]
  refine' wpAnyH_take (i := 2) (v := _) rfl (by kernel_rfl) (by kernel_rfl) (by kernel_rfl) (fun _ _ _ h => h) (Or.inl ⟨by rfl, ?_⟩) (by assumption) ?_
  rotate_left 1
  · (intro w0 hSw; (try dsimp only at hSw); go_split_ands; go_simp; (try with_reducible rfl))
  try simp only [Act.put, List.setIfInBounds_toArray, List.set_cons_zero, List.set_cons_succ, List.getElem_toArray, List.getElem_cons_zero, List.getElem_cons_succ]
  refine' wpAnyH_take (i := 3) (v := _) rfl (by kernel_rfl) (by kernel_rfl) (by kernel_rfl) (fun _ _ _ h => h) (Or.inl ⟨by rfl, ?_⟩) (by assumption) ?_
  rotate_left 1
  · (intro w0 hSw; (try dsimp only at hSw); go_split_ands; go_simp; (try with_reducible rfl))
  try simp only [Act.put, List.setIfInBounds_toArray, List.set_cons_zero, List.set_cons_succ, List.getElem_toArray, List.getElem_cons_zero, List.getElem_cons_succ]
  refine' wpAnyH_take (i := 4) (v := _) rfl (by kernel_rfl) (by kernel_rfl) (by kernel_rfl) (fun _ _ _ h => h) (Or.inl ⟨by rfl, ?_⟩) (by assumption) ?_
  rotate_left 1
  · (intro w0 hSw; (try dsimp only at hSw); go_split_ands; go_simp; (try with_reducible rfl))
  try simp only [Act.put, List.setIfInBounds_toArray, List.set_cons_zero, List.set_cons_succ, List.getElem_toArray, List.getElem_cons_zero, List.getElem_cons_succ]
  refine' wpAnyH_take (i := 5) (v := _) rfl (by kernel_rfl) (by kernel_rfl) (by kernel_rfl) (fun _ _ _ h => h) (Or.inl ⟨by rfl, ?_⟩) (by assumption) ?_
  rotate_left 1
  · (intro w0 hSw; (try dsimp only at hSw); go_split_ands; go_simp; (try with_reducible rfl))
  try simp only [Act.put, List.setIfInBounds_toArray, List.set_cons_zero, List.set_cons_succ, List.getElem_toArray, List.getElem_cons_zero, List.getElem_cons_succ]
  refine' wpAnyH_take (i := 6) (v := _) rfl (by kernel_rfl) (by kernel_rfl) (by kernel_rfl) (fun _ _ _ h => h) (Or.inl ⟨by rfl, ?_⟩) (by assumption) ?_
  rotate_left 1
  · (intro w0 hSw; (try dsimp only at hSw); go_split_ands; go_simp; (try with_reducible rfl))
  try simp only [Act.put, List.setIfInBounds_toArray, List.set_cons_zero, List.set_cons_succ, List.getElem_toArray, List.getElem_cons_zero, List.getElem_cons_succ]
  refine' wpAnyH_take (i := 7) (v := _) rfl (by kernel_rfl) (by kernel_rfl) (by kernel_rfl) (fun _ _ _ h => h) (Or.inl ⟨by rfl, ?_⟩) (by assumption) ?_
  rotate_left 1
  · (intro w0 hSw; (try dsimp only at hSw); go_split_ands; go_simp; (try with_reducible rfl))
  try simp only [Act.put, List.setIfInBounds_toArray, List.set_cons_zero, List.set_cons_succ, List.getElem_toArray, List.getElem_cons_zero, List.getElem_cons_succ]
  refine' wpAnyH_take (i := 8) (v := _) rfl (by kernel_rfl) (by kernel_rfl) (by kernel_rfl) (fun _ _ _ h => h) (Or.inl ⟨by rfl, ?_⟩) (by assumption) ?_
  rotate_left 1
  · (intro w0 hSw; (try dsimp only at hSw); go_split_ands; go_simp; (try with_reducible rfl))
  try simp only [Act.put, List.setIfInBounds_toArray, List.set_cons_zero, List.set_cons_succ, List.getElem_toArray, List.getElem_cons_zero, List.getElem_cons_succ]
  refine' wpAnyH_take (i := 9) (v := _) rfl (by kernel_rfl) (by kernel_rfl) (by kernel_rfl) (fun _ _ _ h => h) (Or.inl ⟨by rfl, ?_⟩) (by assumption) ?_
  rotate_left 1
  · (intro w0 hSw; (try dsimp only at hSw); go_split_ands; go_simp; (try with_reducible rfl))
  try simp only [Act.put, List.setIfInBounds_toArray, List.set_cons_zero, List.set_cons_succ, List.getElem_toArray, List.getElem_cons_zero, List.getElem_cons_succ]
  refine' wpAnyH_take (i := 10) (v := _) rfl (by kernel_rfl) (by kernel_rfl) (by kernel_rfl) (fun _ _ _ h => h) (Or.inl ⟨by rfl, ?_⟩) (by assumption) ?_
  rotate_left 1
  · (intro w0 hSw; (try dsimp only at hSw); go_split_ands; go_simp; (try with_reducible rfl))
  try simp only [Act.put, List.setIfInBounds_toArray, List.set_cons_zero, List.set_cons_succ, List.getElem_toArray, List.getElem_cons_zero, List.getElem_cons_succ]
  refine wpAnyH_done (by kernel_rfl) ?_ _
  clear hw1 hw2 hw3 hw4 c1 c2
  obtain ⟨wd, hwd⟩ : ∃ wd, wd = w0.drew := ⟨_, rfl⟩
  rw [← hwd]
  have Kd : Keeps [] w0 wd := by rw [hwd]; exact (Keeps.refl _ _).drew
  have KD := K0.trans (G := []) Kd (by simp)
  have hz := (Kd.block _ y0 (by simp)).trans X0.out
  have hpd := (Kd.block _ y1 (by simp)).trans X1.out
  clear hwd hHeld
  have g5 : decide ((128 : Int) < (n : Int)) = true := by simp; omega
  have hst := run_store_pf hz HZL.out HZL.out HZ1.out
  have hall := store_all (cs := Z) hz rfl
  have HST := Lib.hid hst
  have HALL := Lib.hid hall
  clear hst hall
  go_wp2_with (first | (refine wl_build rfl 30 #[] #[] rfl (by simp [Act.eval]) ?_; refine ⟨_, _, HBZ.out _, ?_⟩; try simp only [Act.put, List.setIfInBounds_toArray, List.set_cons_zero, List.set_cons_succ, List.getElem_toArray, List.getElem_cons_zero, List.getElem_cons_succ]) | (refine wl_store rfl 30 (.tmp 2) (.tmp 38) rfl ?_; refine ⟨_, HST.out, ?_⟩; try simp only [Act.put, List.setIfInBounds_toArray, List.set_cons_zero, List.set_cons_succ, List.getElem_toArray, List.getElem_cons_zero, List.getElem_cons_succ]))
  refine bodyPost_ret (results_pf2 (b := w.heap.size) rfl rfl rfl (rangeAt_all HALL.out) HZL.out) rfl ⟨_, rfl, ⟨_, _, by rw [HZ.out], BytesAt_nil _, .inl ⟨rfl, none, 0, rfl, by simp [maxLen]⟩, by simp [pf0, zero32], by simp [pf0]⟩, (KD).setCells (.inr (Nat.le_refl _)) 0 _⟩
set_option maxRecDepth 100000 in
set_option maxHeartbeats 3200000 in
theorem refdec_short {w : World} {v : Value} {l : List UInt8} (hv : BytesAt w v l) {x y : UInt8} {t : List UInt8} (hl : l = 1 :: x :: y :: t) {n : Nat} (hn : n = x.toNat + 256 * y.toNat) (hb : n ≤ 128) (hs : t.length < n) :
    Calls Try.prog 25 #[v] w fun e w' => ∃ u, e = .returned (.tuple #[u, .int .i64 120]) ∧ PfIn w' u pf0 ∧ Keeps [] w w' := by
  subst hl
  have HM := Lib.hid hn
  clear hn
  obtain ⟨a, c, rfl, hc, hm⟩ := hv.form
  obtain ⟨Z, hZ⟩ : ∃ Z, Z = (pfCells pf0 (.slice none 0 0) (.slice none 0 0)) := ⟨_, rfl⟩
  have hal := fun (w : World) => run_alloc (P := Try.prog) w info_proof
  rw [zProof_cells, show (⟨false, [], List.replicate 32 0, []⟩ : Pf) = pf0 from rfl, ← hZ] at hal
  obtain ⟨w0, hw0⟩ : ∃ w0, w0 = (w.alloc (.cells Z.toArray 30 (0, 0))).alloc (.cells Z.toArray 30 (0, 0)) := ⟨_, rfl⟩
  have x0 : w0.heap[w.heap.size]? = some (.cells Z.toArray 30 (0, 0)) := by rw [hw0, heap_old_at (by simp), heap_new_at rfl]
  have x1 : w0.heap[w.heap.size + 1]? = some (.cells Z.toArray 30 (0, 0)) := by rw [hw0, heap_new_at (by simp)]
  have K0 : Keeps [] w w0 := by rw [hw0]; exact ((Keeps.refl _ _).alloc _).alloc _
  have s1 : (w.alloc (.cells Z.toArray 30 (0, 0))).heap.size = w.heap.size + 1 := by simp
  have hzl : Z.length = 35 := by rw [hZ]; exact pf_length (by simp [pf0, zero32]) _ _
  have hz1 : ∀ v ∈ Z, v.oneCell' = true := by rw [hZ]; exact pf_ones
  have hbz := run_build_zero
  rw [← hZ] at hbz
  unfold maxLen at hm
  have HBZ := Lib.hid hbz
  have HZ := Lib.hid hZ
  have HAL := Lib.hid hal
  have HW := Lib.hid hw0
  have S1 := Lib.hid s1
  have X0 := Lib.hid x0
  have X1 := Lib.hid x1
  have HZL := Lib.hid hzl
  have HZ1 := Lib.hid hz1
  have y0 := lt_of_heap x0
  have y1 := lt_of_heap x1
  have HV := Lib.hid hv
  clear hZ hal hw0 s1 x1 hv hzl hz1 hbz x0
  obtain ⟨g, o, rfl, hg, hr⟩ := HV.out.at (by simp)
  have c0 := range_byte (w' := w0) hr (K0.block g hg (by simp)) (k := 0) rfl
  have c1 := range_byte (w' := w0) hr (K0.block g hg (by simp)) (k := 1) rfl
  have c2 := range_byte (w' := w0) hr (K0.block g hg (by simp)) (k := 2) rfl
  rw [Nat.add_zero] at c0
  have c0' : w0.cell? ⟨g, o, none⟩ = some (.int .u8 1) := c0
  have hx8 := x.toNat_lt
  have hy8 := y.toNat_lt
  obtain ⟨N, hN⟩ : ∃ N, N = (1 :: x :: y :: t : List UInt8).length := ⟨_, rfl⟩
  have N3 : N = 3 + t.length := by rw [hN]; simp; omega
  rw [← hN] at hc ⊢
  have g3 : (3 : Int) ≤ (N : Int) := by omega
  have n0 : 0 < N := by omega
  have n1 : (1 : Int) < (N : Int) := by omega
  have n2 : (2 : Int) < (N : Int) := by omega
  have HNL := Lib.hid N3
  have HNN := Lib.hid hN
  have HR := Lib.hid hr
  clear c0 hN N3 hr
  go_enter Try.func25, Try.ntmps25
  go_upto_region 2 with (refine wl_alloc rfl 30 rfl ?_; refine ⟨_, _, HAL.out _, ?_⟩; try simp only [Act.put, List.setIfInBounds_toArray, List.set_cons_zero, List.set_cons_succ, List.getElem_toArray, List.getElem_cons_zero, List.getElem_cons_succ])
  rw [S1.out, ← HW.out]
  go_upto_region 4 with fail
  have hw1 : IntKind.i64.wrap (x.toNat : Int) = (x.toNat : Int) := IntWalk.i64_in _ (by omega)
  have hw2 : IntKind.i64.wrap (y.toNat : Int) = (y.toNat : Int) := IntWalk.i64_in _ (by omega)
  have hw3 : IntKind.i64.wrap (256 * (y.toNat : Int)) = 256 * (y.toNat : Int) := IntWalk.i64_in _ (by omega)
  have hw4 : IntKind.i64.wrap ((x.toNat : Int) + 256 * (y.toNat : Int)) = (n : Int) := by
    rw [IntWalk.i64_in _ (by omega), HM.out]
    omega
  refine wp_region_held_drew (S := (fun w' => (w'.cell? ⟨g, o + 1, none⟩ = some (.int .u8 x.toNat) ∧ w'.cell? ⟨g, o + 2, none⟩ = some (.int .u8 y.toNat)) ∧ Keeps [] w0 w')) (by kernel_rfl) ?_ (fun hHeld => ?_)
  · exact ⟨⟨c1, c2⟩, (Keeps.refl _ _).drew⟩
  refine' wpAnyH_take (i := 0) (v := _) rfl (by kernel_rfl) (by kernel_rfl) (by kernel_rfl) (fun _ _ _ h => h) (Or.inl ⟨by rfl, ?_⟩) (by assumption) ?_
  rotate_left 1
  · (intro w0 hSw; (try dsimp only at hSw); go_split_ands; go_simp; (try with_reducible rfl))
  try simp only [Act.put, List.setIfInBounds_toArray, List.set_cons_zero, List.set_cons_succ, List.getElem_toArray, List.getElem_cons_zero, List.getElem_cons_succ]
  refine' wpAnyH_take (i := 1) (v := _) rfl (by kernel_rfl) (by kernel_rfl) (by kernel_rfl) (fun _ _ _ h => h) (Or.inl ⟨by rfl, ?_⟩) (by assumption) ?_
  rotate_left 1
  · (intro w0 hSw; (try dsimp only at hSw); go_split_ands; go_simp; (try with_reducible rfl))
  try simp only [Act.put, List.setIfInBounds_toArray, List.set_cons_zero, List.set_cons_succ, List.getElem_toArray, List.getElem_cons_zero, List.getElem_cons_succ]
  refine' wpAnyH_take (i := 2) (v := _) rfl (by kernel_rfl) (by kernel_rfl) (by kernel_rfl) (fun _ _ _ h => h) (Or.inl ⟨by rfl, ?_⟩) (by assumption) ?_
  rotate_left 1
  · (intro w0 hSw; (try dsimp only at hSw); go_split_ands; go_simp; (try with_reducible rfl))
  try simp only [Act.put, List.setIfInBounds_toArray, List.set_cons_zero, List.set_cons_succ, List.getElem_toArray, List.getElem_cons_zero, List.getElem_cons_succ]
  refine' wpAnyH_take (i := 3) (v := _) rfl (by kernel_rfl) (by kernel_rfl) (by kernel_rfl) (fun _ _ _ h => h) (Or.inl ⟨by rfl, ?_⟩) (by assumption) ?_
  rotate_left 1
  · (intro w0 hSw; (try dsimp only at hSw); go_split_ands; go_simp; (try with_reducible rfl))
  try simp only [Act.put, List.setIfInBounds_toArray, List.set_cons_zero, List.set_cons_succ, List.getElem_toArray, List.getElem_cons_zero, List.getElem_cons_succ]
  refine' wpAnyH_take (i := 4) (v := _) rfl (by kernel_rfl) (by kernel_rfl) (by kernel_rfl) (fun _ _ _ h => h) (Or.inl ⟨by rfl, ?_⟩) (by assumption) ?_
  rotate_left 1
  · (intro w0 hSw; (try dsimp only at hSw); go_split_ands; go_simp; (try with_reducible rfl))
  try simp only [Act.put, List.setIfInBounds_toArray, List.set_cons_zero, List.set_cons_succ, List.getElem_toArray, List.getElem_cons_zero, List.getElem_cons_succ]
  refine' wpAnyH_take (i := 5) (v := _) rfl (by kernel_rfl) (by kernel_rfl) (by kernel_rfl) (fun _ _ _ h => h) (Or.inl ⟨by rfl, ?_⟩) (by assumption) ?_
  rotate_left 1
  · (intro w0 hSw; (try dsimp only at hSw); go_split_ands; go_simp; (try with_reducible rfl))
  try simp only [Act.put, List.setIfInBounds_toArray, List.set_cons_zero, List.set_cons_succ, List.getElem_toArray, List.getElem_cons_zero, List.getElem_cons_succ]
  refine' wpAnyH_take (i := 6) (v := _) rfl (by kernel_rfl) (by kernel_rfl) (by kernel_rfl) (fun _ _ _ h => h) (Or.inl ⟨by rfl, ?_⟩) (by assumption) ?_
  rotate_left 1
  · (intro w0 hSw; (try dsimp only at hSw); go_split_ands; go_simp; (try with_reducible rfl))
  try simp only [Act.put, List.setIfInBounds_toArray, List.set_cons_zero, List.set_cons_succ, List.getElem_toArray, List.getElem_cons_zero, List.getElem_cons_succ]
  refine' wpAnyH_take (i := 7) (v := _) rfl (by kernel_rfl) (by kernel_rfl) (by kernel_rfl) (fun _ _ _ h => h) (Or.inl ⟨by rfl, ?_⟩) (by assumption) ?_
  rotate_left 1
  · (intro w0 hSw; (try dsimp only at hSw); go_split_ands; go_simp; (try with_reducible rfl))
  try simp only [Act.put, List.setIfInBounds_toArray, List.set_cons_zero, List.set_cons_succ, List.getElem_toArray, List.getElem_cons_zero, List.getElem_cons_succ]
  refine' wpAnyH_take (i := 8) (v := _) rfl (by kernel_rfl) (by kernel_rfl) (by kernel_rfl) (fun _ _ _ h => h) (Or.inl ⟨by rfl, ?_⟩) (by assumption) ?_
  rotate_left 1
  · (intro w0 hSw; (try dsimp only at hSw); go_split_ands; go_simp; (try with_reducible rfl))
  try simp only [Act.put, List.setIfInBounds_toArray, List.set_cons_zero, List.set_cons_succ, List.getElem_toArray, List.getElem_cons_zero, List.getElem_cons_succ]
  refine' wpAnyH_take (i := 9) (v := _) rfl (by kernel_rfl) (by kernel_rfl) (by kernel_rfl) (fun _ _ _ h => h) (Or.inl ⟨by rfl, ?_⟩) (by assumption) ?_
  rotate_left 1
  · (intro w0 hSw; (try dsimp only at hSw); go_split_ands; go_simp; (try with_reducible rfl))
  try simp only [Act.put, List.setIfInBounds_toArray, List.set_cons_zero, List.set_cons_succ, List.getElem_toArray, List.getElem_cons_zero, List.getElem_cons_succ]
  refine' wpAnyH_take (i := 10) (v := _) rfl (by kernel_rfl) (by kernel_rfl) (by kernel_rfl) (fun _ _ _ h => h) (Or.inl ⟨by rfl, ?_⟩) (by assumption) ?_
  rotate_left 1
  · (intro w0 hSw; (try dsimp only at hSw); go_split_ands; go_simp; (try with_reducible rfl))
  try simp only [Act.put, List.setIfInBounds_toArray, List.set_cons_zero, List.set_cons_succ, List.getElem_toArray, List.getElem_cons_zero, List.getElem_cons_succ]
  refine wpAnyH_done (by kernel_rfl) ?_ _
  clear hw1 hw2 hw3 hw4 c1 c2
  obtain ⟨wd, hwd⟩ : ∃ wd, wd = w0.drew := ⟨_, rfl⟩
  rw [← hwd]
  have Kd : Keeps [] w0 wd := by rw [hwd]; exact (Keeps.refl _ _).drew
  have KD := K0.trans (G := []) Kd (by simp)
  have hz := (Kd.block _ y0 (by simp)).trans X0.out
  have hpd := (Kd.block _ y1 (by simp)).trans X1.out
  clear hwd hHeld
  have g5 : decide ((128 : Int) < (n : Int)) = false := by simp; omega
  have g6 : (N : Int) < 3 + (n : Int) := by have := HNL.out; omega
  have hst := run_store_pf hz HZL.out HZL.out HZ1.out
  have hall := store_all (cs := Z) hz rfl
  have HST := Lib.hid hst
  have HALL := Lib.hid hall
  clear hst hall
  go_wp2_with (first | (refine wl_build rfl 30 #[] #[] rfl (by simp [Act.eval]) ?_; refine ⟨_, _, HBZ.out _, ?_⟩; try simp only [Act.put, List.setIfInBounds_toArray, List.set_cons_zero, List.set_cons_succ, List.getElem_toArray, List.getElem_cons_zero, List.getElem_cons_succ]) | (refine wl_store rfl 30 (.tmp 2) (.tmp 38) rfl ?_; refine ⟨_, HST.out, ?_⟩; try simp only [Act.put, List.setIfInBounds_toArray, List.set_cons_zero, List.set_cons_succ, List.getElem_toArray, List.getElem_cons_zero, List.getElem_cons_succ]))
  refine bodyPost_ret (results_pf2 (b := w.heap.size) rfl rfl rfl (rangeAt_all HALL.out) HZL.out) rfl ⟨_, rfl, ⟨_, _, by rw [HZ.out], BytesAt_nil _, .inl ⟨rfl, none, 0, rfl, by simp [maxLen]⟩, by simp [pf0, zero32], by simp [pf0]⟩, (KD).setCells (.inr (Nat.le_refl _)) 0 _⟩
end Go.Proofs.Ytnobhfpjchofpaa
