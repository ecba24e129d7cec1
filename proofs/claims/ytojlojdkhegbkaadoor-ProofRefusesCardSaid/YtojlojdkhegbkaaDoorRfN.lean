/-
  Lemmas of a claim, bundle N: XShG XShE XShF XNdA XNdB XNdC XNdD XNdE XPrB XPrC XPrD XPrE XPrF XPrG XPrH.
-/
import Derived.Lib.MinMax
import Derived.Test.YtojlojdkhegbkaaDoorRfI
import Derived.Test.YtojlojdkhegbkaaDoorRfF
import Derived.Test.YtojlojdkhegbkaaDoorRfK
import Derived.Test.YtojlojdkhegbkaaDoorRfM
/-
  Package digest: Cut.
-/
namespace Go.Proofs.YtojlojdkhegbkaaDoor
set_option linter.unusedVariables false
set_option linter.unusedSimpArgs false
open Go.RowKit

theorem dg_size : (Tryd.prog.info? 52).map (·.size) = some 32 := by kernel_rfl
theorem dg_run_store {w : World} {q : Nat} {x : List UInt8} (h : w.heap[q]? = some (.cells (Array.replicate 32 (Value.int .u8 0)) 52 (0, 0))) (hl : x.length = 32) :
    (Instr.storeAt 52 (.pointer (some ⟨q, 0, none⟩)) (.agg (x.map B).toArray)).run Tryd.prog w = .ok () (w.setCells q 0 (x.map B)) := by
  have h2 : w.heap[q]? = some (.cells (List.replicate 32 (Value.int .u8 0)).toArray 52 (0, 0)) := by rw [h]; rfl
  have := run_storeAt_mid (P := Tryd.prog) w q 0 52 (x.map B).toArray (there_all h2 0 _ (by simp [hl])) (by rw [dg_size]; simp [hl]) (all_oneCell_toArray (B_one x))
  simpa using this
theorem dg_store {w : World} {q : Nat} {x : List UInt8} (h : w.heap[q]? = some (.cells (Array.replicate 32 (Value.int .u8 0)) 52 (0, 0))) (hl : x.length = 32) : Blk (w.setCells q 0 (x.map B)) q 52 x := by
  have h2 : w.heap[q]? = some (.cells (List.replicate 32 (Value.int .u8 0)).toArray 52 (0, 0)) := by rw [h]; rfl
  exact store_all h2 (by simp [hl])
def cutL (d : List UInt8) (k : Nat) : List UInt8 := d.take k ++ List.replicate (32 - k) 0
theorem cutL_length {d : List UInt8} (h : d.length = 32) {k : Nat} (hk : k ≤ 32) : (cutL d k).length = 32 := by simp [cutL, h]; omega
set_option maxRecDepth 100000 in
theorem run_dig_to (w : World) (g k : Nat) (hk : k ≤ 32) : (Instr.sliceAt 52 (.pointer (some ⟨g, 0, none⟩)) none (some (.int .i64 k)) none).run Tryd.prog w = .ok (.slice (some ⟨g, 0, none⟩) k 32) w := by
  have h := run_sliceAt_array_h (P := Tryd.prog) w 52 ⟨g, 0, none⟩ Tryd.underlying52 .i64 k (by omega) (by show (k : Int) ≤ (32 : Nat); omega)
  rw [h]
  show Result.ok (slicedAt ⟨g, 0, none⟩ 0 (Int.toNat k) 32 1) w = _
  simp [slicedAt, Addr.add_mid]
set_option maxRecDepth 100000 in
set_option maxHeartbeats 1600000 in
theorem cut_any {w : World} {d : List UInt8} (hd : d.length = 32) (n : Int) (n0 : -9223372036854775808 ≤ n) (n1 : n ≤ 9223372036854775807) (k : Nat) (hk : (k : Int) = min (max n 0) 32) :
    Calls Tryd.prog 36 #[.agg (d.map B).toArray, .int .i64 n] w fun e w' => e = .returned (.agg ((cutL d k).map B).toArray) ∧ Keeps [] w w' := by
  have hk32 : k ≤ 32 := by omega
  obtain ⟨q, hq⟩ : ∃ q, q = w.heap.size := ⟨_, rfl⟩
  obtain ⟨w1, hw1⟩ : ∃ x, x = ((w.alloc (.cells (d.map B).toArray 52 (0, 0))).alloc (.cells #[.int .u8 0, .int .u8 0, .int .u8 0, .int .u8 0, .int .u8 0, .int .u8 0, .int .u8 0, .int .u8 0, .int .u8 0, .int .u8 0, .int .u8 0, .int .u8 0, .int .u8 0, .int .u8 0, .int .u8 0, .int .u8 0, .int .u8 0, .int .u8 0, .int .u8 0, .int .u8 0, .int .u8 0, .int .u8 0, .int .u8 0, .int .u8 0, .int .u8 0, .int .u8 0, .int .u8 0, .int .u8 0, .int .u8 0, .int .u8 0, .int .u8 0, .int .u8 0] 52 (0, 0))).alloc (.cells #[.int .u8 0, .int .u8 0, .int .u8 0, .int .u8 0, .int .u8 0, .int .u8 0, .int .u8 0, .int .u8 0, .int .u8 0, .int .u8 0, .int .u8 0, .int .u8 0, .int .u8 0, .int .u8 0, .int .u8 0, .int .u8 0, .int .u8 0, .int .u8 0, .int .u8 0, .int .u8 0, .int .u8 0, .int .u8 0, .int .u8 0, .int .u8 0, .int .u8 0, .int .u8 0, .int .u8 0, .int .u8 0, .int .u8 0, .int .u8 0, .int .u8 0, .int .u8 0] 52 (0, 0)) := ⟨_, rfl⟩
  have hk1 : Keeps [] w w1 := by rw [hw1]; exact (((Keeps.refl _ _).alloc _).alloc _).alloc _
  have hz : (#[.int .u8 0, .int .u8 0, .int .u8 0, .int .u8 0, .int .u8 0, .int .u8 0, .int .u8 0, .int .u8 0, .int .u8 0, .int .u8 0, .int .u8 0, .int .u8 0, .int .u8 0, .int .u8 0, .int .u8 0, .int .u8 0, .int .u8 0, .int .u8 0, .int .u8 0, .int .u8 0, .int .u8 0, .int .u8 0, .int .u8 0, .int .u8 0, .int .u8 0, .int .u8 0, .int .u8 0, .int .u8 0, .int .u8 0, .int .u8 0, .int .u8 0, .int .u8 0] : Array Value) = ((List.replicate 32 (0 : UInt8)).map B).toArray := rfl
  have b0 : Blk w1 q 52 d := by
    rw [hw1]
    exact (heap_old_at (by simp; omega)).trans ((heap_old_at (by simp; omega)).trans (heap_new_at hq))
  have b1 : w1.heap[q + 1]? = some (.cells #[.int .u8 0, .int .u8 0, .int .u8 0, .int .u8 0, .int .u8 0, .int .u8 0, .int .u8 0, .int .u8 0, .int .u8 0, .int .u8 0, .int .u8 0, .int .u8 0, .int .u8 0, .int .u8 0, .int .u8 0, .int .u8 0, .int .u8 0, .int .u8 0, .int .u8 0, .int .u8 0, .int .u8 0, .int .u8 0, .int .u8 0, .int .u8 0, .int .u8 0, .int .u8 0, .int .u8 0, .int .u8 0, .int .u8 0, .int .u8 0, .int .u8 0, .int .u8 0] 52 (0, 0)) := by
    rw [hw1]
    exact (heap_old_at (by simp; omega)).trans (heap_new_at (by simp; omega))
  have b2 : Blk w1 (q + 1 + 1) 52 (List.replicate 32 (0 : UInt8)) := by
    rw [hw1]
    exact (heap_new_at (by simp; omega)).trans rfl
  have hcp : ∃ w2, (∀ ty, (Builtin.copy_ #[25, 25] ty #[.slice (some ⟨q + 1 + 1, 0, none⟩) k 32, .slice (some ⟨q, 0, none⟩) k 32]).run Tryd.prog w1.drew = .ok (.int .i64 k) w2) ∧ Blk w2 (q + 1 + 1) 52 (cutL d k) ∧ Keeps [q + 1 + 1] w1.drew w2 := by
    have hB : Blk w1.drew (q + 1 + 1) 52 (List.replicate 32 (0 : UInt8)) := b2
    have hS : BytesAt w1.drew (.slice (some ⟨q, 0, none⟩) k 32) (d.take k) := by
      have := Blk.part (w := w1.drew) (g := q) (t := 52) (l := d) b0 0 k 32 (by omega) hk32 (by simp [maxLen])
      simpa using this
    rcases Nat.eq_zero_or_pos k with h0 | h0
    · subst h0
      refine ⟨w1.drew, fun ty => run_copy_none (P := Tryd.prog) _ 25 25 ty 5 _ _ 0 32 0 32 Tryd.underlying25 (by kernel_rfl) (by simp), ?_, Keeps.refl _ _⟩
      simpa [cutL] using hB
    · have hlt : (d.take k).length = k := by rw [List.length_take]; omega
      refine ⟨_, fun ty => run_copy_blk (c1 := 32) (m := k) hB hS h0 hlt (Nat.le_refl _) (by simp; omega) ty, ?_, (Keeps.refl _ _).setRow (.inl (by simp)) _⟩
      have e : over (List.replicate 32 (0 : UInt8)) 0 (d.take k) = cutL d k := by simp only [over, cutL, hlt, List.take_zero, List.nil_append, Nat.zero_add, List.drop_replicate]
      rw [e]
      exact hB.setRow _
  obtain ⟨w2, hrun, hb2, hk2⟩ := hcp
  have hk12 : Keeps [q + 1 + 1] w1 w2 := ((Keeps.refl [q + 1 + 1] w1).drew).trans (G := [q + 1 + 1]) hk2 (fun j hj => .inl hj)
  have hb1 : w2.heap[q + 1]? = some (.cells (Array.replicate 32 (Value.int .u8 0)) 52 (0, 0)) := (hk12.block _ (lt_of_heap b1) (by simp)).trans (b1.trans rfl)
  have hcl := cutL_length hd hk32
  have HRUN := Lib.hid hrun
  have HB2 := Lib.hid hb2
  have HB1 := Lib.hid hb1
  have HW1 := Lib.hid hw1
  have HQ := Lib.hid hq
  have HK := Lib.hid hk
  have HK1 := Lib.hid hk1
  have HK12 := Lib.hid hk12
  have HCL := Lib.hid hcl
  have HSD := Lib.hid (show (Tryd.prog.info? 52).map (·.size) = some ((cutL d k).map B).length by rw [List.length_map, hcl]; exact dg_size)
  have HSL := Lib.hid (fun wx g => run_dig_to wx g k hk32)
  clear hw1 hq hk1 b0 b1 b2 hz hrun hb2 hk2 hk12 hb1 hk hcl
  go_enter Tryd.func36, Tryd.ntmps36
  go_upto_region 3 with fail
  rw [← HQ.out, ← HK.out, ← HW1.out]
  refine wp_region_held_drew (S := (fun _ => True)) (by kernel_rfl) ?_ (fun hHeld => ?_)
  · trivial
  refine' wpAnyH_take (i := 0) (v := _) rfl (by kernel_rfl) (by kernel_rfl) (by kernel_rfl) (fun _ _ _ h => h) (Or.inl ⟨by rfl, ?_⟩) (by assumption) ?_
  rotate_left 1
  · (intro w0 hSw; (try dsimp only at hSw); go_split_ands; go_simp; (try with_reducible rfl))
  try simp only [Act.put, List.setIfInBounds_toArray, List.set_cons_zero, List.set_cons_succ, List.getElem_toArray, List.getElem_cons_zero, List.getElem_cons_succ]
  refine' wpAnyH_take (i := 1) (v := _) rfl (by kernel_rfl) (by kernel_rfl) (by kernel_rfl) (fun _ _ _ h => h) (Or.inl ⟨by rfl, ?_⟩) (by assumption) ?_
  rotate_left 1
  · intro w0 hSw
    go_simp
    rw [HSL.out w0]
    rfl
  try simp only [Act.put, List.setIfInBounds_toArray, List.set_cons_zero, List.set_cons_succ, List.getElem_toArray, List.getElem_cons_zero, List.getElem_cons_succ]
  refine' wpAnyH_take (i := 2) (v := _) rfl (by kernel_rfl) (by kernel_rfl) (by kernel_rfl) (fun _ _ _ h => h) (Or.inl ⟨by rfl, ?_⟩) (by assumption) ?_
  rotate_left 1
  · (intro w0 hSw; (try dsimp only at hSw); go_split_ands; go_simp; (try with_reducible rfl))
  try simp only [Act.put, List.setIfInBounds_toArray, List.set_cons_zero, List.set_cons_succ, List.getElem_toArray, List.getElem_cons_zero, List.getElem_cons_succ]
  refine' wpAnyH_take (i := 3) (v := _) rfl (by kernel_rfl) (by kernel_rfl) (by kernel_rfl) (fun _ _ _ h => h) (Or.inl ⟨by rfl, ?_⟩) (by assumption) ?_
  rotate_left 1
  · intro w0 hSw
    go_simp
    rw [HSL.out w0]
    rfl
  try simp only [Act.put, List.setIfInBounds_toArray, List.set_cons_zero, List.set_cons_succ, List.getElem_toArray, List.getElem_cons_zero, List.getElem_cons_succ]
  refine wpAnyH_ready (rs := [4]) (by kernel_rfl) (by simp) ?_
  refine AllReadyH.cons rfl (fun K hK => ?_) AllReadyH.nil
  refine step_copy rfl (.tmp 10) (.tmp 12) rfl _ _ _ (by rfl) (by rfl) HRUN.out ?_
  refine hK.out _ _ ?_ (fun hHeld => ?_)
  · trivial
  clear hK K
  try simp only [Act.put, List.setIfInBounds_toArray, List.set_cons_zero, List.set_cons_succ, List.getElem_toArray, List.getElem_cons_zero, List.getElem_cons_succ]
  refine wpAnyH_done (by kernel_rfl) ?_ _
  clear hHeld
  go_wp2_with (first | (refine wpList_load_mid rfl 52 (.tmp 5) rfl (q + 1 + 1) 0 (by rfl) ((cutL d k).map B) _ (rangeAt_all HB2.out) Tryd.underlying52 rfl HSD.out ?_; try simp only [Act.put, List.setIfInBounds_toArray, List.set_cons_zero, List.set_cons_succ, List.getElem_toArray, List.getElem_cons_zero, List.getElem_cons_succ]) | (refine wl_store rfl 52 (.tmp 4) (.tmp 14) rfl ?_; refine ⟨_, dg_run_store HB1.out HCL.out, ?_⟩; try simp only [Act.put, List.setIfInBounds_toArray, List.set_cons_zero, List.set_cons_succ, List.getElem_toArray, List.getElem_cons_zero, List.getElem_cons_succ]))
  refine bodyPost_ret (results_row (cs := (cutL d k).map B) rfl rfl (rangeAt_all (dg_store HB1.out HCL.out)) Tryd.underlying52 rfl HSD.out) rfl ⟨rfl, ?_⟩
  have hb := HB1.out
  have hle : w.heap.size ≤ q := by rw [HQ.out]; exact Nat.le_refl _
  exact (HK1.out.trans (G := [q + 1 + 1]) HK12.out (fun j hj => .inr (by simp at hj; subst hj; omega))).setCells (.inr (by omega)) _ _
end Go.Proofs.YtojlojdkhegbkaaDoor

/-
  Package digest: a hasher's Sum.
-/
namespace Go.Proofs.YtojlojdkhegbkaaDoor
set_option linter.unusedVariables false
set_option linter.unusedSimpArgs false
open Go.RowKit

def S8.zero : S8 := ⟨0, 0, 0, 0, 0, 0, 0, 0⟩
set_option maxRecDepth 100000 in
theorem info_hasher : (Tryd.prog.info? 126).map (fun i => (i.zero, i.size, i.bytes)) = some (some (.agg (hCells S8.zero (List.replicate 64 0) 0 0).toArray), 74, 112) := by kernel_rfl
set_option maxRecDepth 100000 in
theorem info_128 : (Tryd.prog.info? 144).map (fun i => (i.zero, i.size, i.bytes)) = some (some (.agg ((List.replicate 128 (0 : UInt8)).map B).toArray), 128, 128) := by kernel_rfl
theorem size_h74 : (Tryd.prog.info? 126).map (·.size) = some 74 := by kernel_rfl
theorem size_hasher {s : S8} {r : List UInt8} {k t : Nat} (h : r.length = 64) : (Tryd.prog.info? 126).map (·.size) = some (hCells s r k t).length := by
  have : (hCells s r k t).length = 74 := by simp [hCells, h, S8.words]
  rw [this]; exact size_h74
theorem hCells_one (s : S8) (r : List UInt8) (k t : Nat) : (hCells s r k t).toArray.all (·.oneCell') = true := by
  simp [hCells, W32, B, Value.oneCell']
theorem beN8 (v : Nat) : beN 8 v = [UInt8.ofNat (v / 72057594037927936 % 256), UInt8.ofNat (v / 281474976710656 % 256), UInt8.ofNat (v / 1099511627776 % 256), UInt8.ofNat (v / 4294967296 % 256), UInt8.ofNat (v / 16777216 % 256), UInt8.ofNat (v / 65536 % 256), UInt8.ofNat (v / 256 % 256), UInt8.ofNat (v % 256)] := by
  simp [beN, Nat.div_div_eq_div_mul]
theorem beN4 (v : Nat) : beN 4 v = [UInt8.ofNat (v / 16777216 % 256), UInt8.ofNat (v / 65536 % 256), UInt8.ofNat (v / 256 % 256), UInt8.ofNat (v % 256)] := by
  simp [beN, Nat.div_div_eq_div_mul]
theorem over_take_succ {V l : List UInt8} {o j : Nat} (hj : j < l.length) (hl : o + l.length ≤ V.length) : (over V o (l.take j)).set (o + j) l[j] = over V o (l.take (j + 1)) := by
  have h1 : (V.take o ++ l.take j).length = o + j := by simp; omega
  have h2 : (l.take j).length = j := by rw [List.length_take]; omega
  have h3 : (l.take (j + 1)).length = j + 1 := by rw [List.length_take]; omega
  unfold over
  rw [List.set_append_right _ _ (by rw [h1]; exact Nat.le_refl _), h1, Nat.sub_self, h2, h3, List.drop_eq_getElem_cons (i := o + j) (by omega), List.set_cons_zero, show l.take (j + 1) = l.take j ++ [l[j]] from List.take_succ_eq_append_getElem hj, List.append_assoc, List.append_assoc, List.append_assoc]
  simp only [List.singleton_append, Nat.add_assoc]
set_option maxRecDepth 100000 in
theorem pad_tail {m : List UInt8} {V : List UInt8} {N L : Nat} (hN : N = (119 - m.length % 64) % 64) (hL : L = m.length * 8 % 18446744073709551616) (hV : V = (List.replicate 128 (0 : UInt8)).set 0 128) : m ++ (over V (N + 1) (beN 8 L)).take (N + 9) = shaPad m := by
  have hN64 : N < 64 := by omega
  have e1 : V.take (N + 1) = 128 :: List.replicate N 0 := by
    rw [hV, show (List.replicate 128 (0 : UInt8)).set 0 128 = 128 :: List.replicate 127 0 from rfl, List.take_succ_cons, List.take_replicate, Nat.min_eq_left (by omega)]
  have e2 : (V.take (N + 1) ++ beN 8 L).length = N + 9 := by rw [e1]; simp [beN_length]
  unfold over shaPad
  rw [List.take_left' e2, e1, hL, show (55 + 64 - m.length % 64) % 64 = N by omega]
  rfl
set_option maxRecDepth 100000 in
theorem run_128_to (w : World) (g k : Nat) (hk : k ≤ 128) : (Instr.sliceAt 144 (.pointer (some ⟨g, 0, none⟩)) none (some (.int .i64 k)) none).run Tryd.prog w = .ok (.slice (some ⟨g, 0, none⟩) k 128) w := by
  have h := run_sliceAt_array_h (P := Tryd.prog) w 144 ⟨g, 0, none⟩ Tryd.underlying144 .i64 k (by omega) (by show (k : Int) ≤ (128 : Nat); omega)
  rw [h]
  show Result.ok (slicedAt ⟨g, 0, none⟩ 0 (Int.toNat k) 128 1) w = _
  simp [slicedAt, Addr.add_mid]
theorem B_mod (x : Nat) : B (UInt8.ofNat (x % 256)) = .int .u8 ((x % 256 : Nat) : Int) := by
  have : (UInt8.ofNat (x % 256)).toNat = x % 256 := by simp
  simp only [B, this]
set_option maxRecDepth 100000 in
set_option maxHeartbeats 6400000 in
theorem end_any {w : World} {g : Nat} {m : List UInt8} (h : HashAt w g m) (ht : Tabs w) :
    Calls Tryd.prog 55 #[.pointer (some ⟨g, 0, none⟩)] w fun e w' => e = .returned (.agg ((shaL m).map B).toArray) ∧ Keeps [] w w' := by
  obtain ⟨r, hI, hr⟩ := h.cells
  obtain ⟨s, hs⟩ : ∃ s, s = hState m := ⟨_, rfl⟩
  obtain ⟨k, hk⟩ : ∃ k, k = m.length % 64 := ⟨_, rfl⟩
  obtain ⟨T, hT⟩ : ∃ T, T = m.length % 18446744073709551616 := ⟨_, rfl⟩
  obtain ⟨q, hq⟩ : ∃ q, q = w.heap.size := ⟨_, rfl⟩
  rw [← hs, ← hk, ← hT] at hI
  obtain ⟨C, hC⟩ : ∃ C, C = hCells s r k T := ⟨_, rfl⟩
  have hrow : w.heap[g]? = some (.cells C.toArray 126 (0, 0)) := by rw [hC]; exact hI.row
  have hCl : C.length = 74 := by rw [hC]; simp [hCells, hI.len, S8.words]
  obtain ⟨Z, hZ, hZi⟩ : ∃ Z : List Value, Z.length = 74 ∧ (Tryd.prog.info? 126).map (fun i => (i.zero, i.size, i.bytes)) = some (some (.agg Z.toArray), 74, 112) := ⟨_, rfl, info_hasher⟩
  obtain ⟨Y, hY, hYi⟩ : ∃ Y : List UInt8, Y = List.replicate 128 0 ∧ (Tryd.prog.info? 144).map (fun i => (i.zero, i.size, i.bytes)) = some (some (.agg (Y.map B).toArray), 128, 128) := ⟨_, rfl, info_128⟩
  obtain ⟨X, hX, hXi⟩ : ∃ X : Array Value, X = Array.replicate 32 (.int .u8 0) ∧ (Tryd.prog.info? 52).map (fun i => (i.zero, i.size, i.bytes)) = some (some (.agg X), 32, 32) := ⟨_, rfl, info_digest⟩
  obtain ⟨w1, hw1⟩ : ∃ x, x = w.alloc (.cells X 52 (0, 0)) := ⟨_, rfl⟩
  obtain ⟨q1, hq1⟩ : ∃ x, x = w1.heap.size := ⟨_, rfl⟩
  obtain ⟨w2, hw2⟩ : ∃ x, x = w1.alloc (.cells Z.toArray 126 (0, 0)) := ⟨_, rfl⟩
  have k1 : Keeps [] w w1 := by rw [hw1]; exact (Keeps.refl _ _).alloc _
  have k2 : Keeps [] w w2 := by rw [hw2]; exact k1.alloc _
  have hrow1 : w1.heap[g]? = some (.cells C.toArray 126 (0, 0)) := (k1.block g (lt_of_heap hrow) (by simp)).trans hrow
  have hnew : w2.heap[q1]? = some (.cells Z.toArray 126 (0, 0)) := by rw [hw2]; exact heap_new_at hq1
  have hst : (Instr.storeAt 126 (.pointer (some ⟨q1, 0, none⟩)) (.agg C.toArray)).run Tryd.prog w2 = .ok () (w2.setCells q1 0 C) := by
    have := run_storeAt_mid (P := Tryd.prog) w2 q1 0 126 C.toArray (there_all hnew 0 _ (by simp [hZ, hCl])) (by rw [size_h74]; simp [hCl]) (by rw [hC]; exact hCells_one _ _ _ _)
    simpa using this
  have hI3 : HIn (w2.setCells q1 0 C) q1 s r k T := ⟨by rw [← hC]; exact store_all hnew (by rw [hZ, hCl]), hI.len⟩
  have hq1w : w.heap.size < q1 := by rw [hq1, hw1]; simp
  have k3 : Keeps [] w (w2.setCells q1 0 C) := k2.setCells (.inr (by omega)) _ _
  have hres : (w2.setCells q1 0 C).heap[q]? = some (.cells X 52 (0, 0)) := by
    have e1 : w1.heap[q]? = some (.cells X 52 (0, 0)) := by rw [hw1]; exact heap_new_at hq
    have e2 : Keeps [q1] w1 (w2.setCells q1 0 C) := by rw [hw2]; exact ((Keeps.refl _ _).alloc _).setCells (.inl (by simp)) _ _
    exact (e2.block q (lt_of_heap e1) (by simp; omega)).trans e1
  obtain ⟨w3, hw3⟩ : ∃ x, x = w2.setCells q1 0 C := ⟨_, rfl⟩
  rw [← hw3] at hst hI3 k3 hres
  obtain ⟨L, hL⟩ : ∃ L, L = m.length * 8 % 18446744073709551616 := ⟨_, rfl⟩
  have uL : IntKind.u64.wrap ((T : Int) * 8) = (L : Int) := by rw [hT, hL]; simp only [IntKind.wrap, IntKind.bits, IntKind.signed]; simp; omega
  obtain ⟨q2, hq2⟩ : ∃ x, x = w3.heap.size := ⟨_, rfl⟩
  obtain ⟨w4, hw4⟩ : ∃ x, x = w3.alloc (.cells (Y.map B).toArray 144 (0, 0)) := ⟨_, rfl⟩
  have b4 : Blk w4 q2 144 Y := by rw [hw4]; exact heap_new_at hq2
  have k34 : Keeps [] w3 w4 := by rw [hw4]; exact (Keeps.refl _ _).alloc _
  have hq12 : q1 < q2 := by rw [hq2]; exact hI3.lt
  have hYl : Y.length = 128 := by rw [hY]; simp
  have c40 : w4.cell? ⟨q2, 0, none⟩ = some (B 0) := by rw [b4.cell 0 (by omega)]; simp [hY]
  have f40 := b4.free 0
  have k64 : k < 64 := by omega
  have ek : ((k : Int) % 64) = (k : Int) := by omega
  obtain ⟨N, hN⟩ : ∃ N, N = (119 - k) % 64 := ⟨_, rfl⟩
  have eN : (119 - (k : Int)) % 64 = (N : Int) := by omega
  have hN64 : N < 64 := by omega
  have HN := Lib.hid hN
  have HW4 := Lib.hid hw4
  have HQ2 := Lib.hid hq2
  have HB4 := Lib.hid b4
  have HK34 := Lib.hid k34
  have HL := Lib.hid hL
  have c3472 := (hI3.keeps k34 (by simp)).have_cell
  have c372 := hI3.have_cell
  have c373 := hI3.taken_cell
  have HROW1 := Lib.hid hrow1
  have HST := Lib.hid hst
  have HSZ := Lib.hid (show (Tryd.prog.info? 126).map (·.size) = some C.length by rw [hCl]; exact size_h74)
  have HW1 := Lib.hid hw1
  have HW2 := Lib.hid hw2
  have HQ := Lib.hid hq
  have HQ1 := Lib.hid hq1
  have HI3 := Lib.hid hI3
  have HK3 := Lib.hid k3
  have HRES := Lib.hid hres
  have HZI := Lib.hid hZi
  have HYI := Lib.hid hYi
  have HXI := Lib.hid hXi
  have HX := Lib.hid hX
  have HY := Lib.hid hY
  have HZ := Lib.hid hZ
  have HT := Lib.hid ht
  have HCC := Lib.hid hC
  have HM := Lib.hid (And.intro hk hT)
  have HS := Lib.hid hs
  have HR := Lib.hid hr
  clear hw1 k1 hrow1 hw2 hq hq1 k2 hN hw4 hq2 b4 k34 hL hYl hnew hst hI3 k3 hres hZi hYi hXi hX hY hZ ht hC hCl hI hrow h hk hT hs hr hw3
  go_enter Tryd.func55, Tryd.ntmps55
  go_upto_region 1 with (first | (refine wl_alloc rfl 52 rfl ?_; refine ⟨_, _, run_alloc _ HXI.out, ?_⟩; try simp only [Act.put, List.setIfInBounds_toArray, List.set_cons_zero, List.set_cons_succ, List.getElem_toArray, List.getElem_cons_zero, List.getElem_cons_succ]))
  try simp only [Value.cells]
  rw [← HW1.out, ← HQ.out]
  go_upto_region 2 with (first | (refine wpList_load_mid rfl 126 (.tmp 12) rfl g 0 (by rfl) C _ (rangeAt_all HROW1.out) Tryd.underlying126 rfl HSZ.out ?_; try simp only [Act.put, List.setIfInBounds_toArray, List.set_cons_zero, List.set_cons_succ, List.getElem_toArray, List.getElem_cons_zero, List.getElem_cons_succ]) | (refine wl_alloc rfl 126 rfl ?_; refine ⟨_, _, run_alloc _ HZI.out, ?_⟩; (try simp only [Value.cells]); rw [← HW2.out, ← HQ1.out]; try simp only [Act.put, List.setIfInBounds_toArray, List.set_cons_zero, List.set_cons_succ, List.getElem_toArray, List.getElem_cons_zero, List.getElem_cons_succ]) | (refine wl_store rfl 126 (.tmp 3) (.tmp 13) rfl ?_; refine ⟨_, HST.out, ?_⟩; try simp only [Act.put, List.setIfInBounds_toArray, List.set_cons_zero, List.set_cons_succ, List.getElem_toArray, List.getElem_cons_zero, List.getElem_cons_succ]))
  go_upto_region 4 with (first | (refine wl_alloc rfl 144 rfl ?_; refine ⟨_, _, run_alloc _ HYI.out, ?_⟩; (try simp only [Value.cells]); rw [← HW4.out, ← HQ2.out]; try simp only [Act.put, List.setIfInBounds_toArray, List.set_cons_zero, List.set_cons_succ, List.getElem_toArray, List.getElem_cons_zero, List.getElem_cons_succ]))
  go_wp2_with fail
  go_loopw [24] (fun iv wr => ∃ j : Nat, j ≤ 8 ∧ iv = .int .i64 j ∧ Blk wr q2 144 (over (Y.set 0 128) (N + 1) ((beN 8 L).take j)) ∧ Keeps [q2] w4 wr) (fun iv _ => 8 - (intOf iv).toNat)
  case atStart =>
    refine ⟨0, by omega, rfl, ?_, (Keeps.refl _ _).setCell (.inl (by simp)) _⟩
    have := HB4.out.set 0 128
    rw [List.take_zero, show over (Y.set 0 128) (N + 1) [] = Y.set 0 128 by simp [over]]
    exact this
  case round =>
    obtain ⟨j, hj, rfl, hb, hkr⟩ := hrel
    have hlen : (over (Y.set 0 128) (N + 1) ((beN 8 L).take j)).length = 128 := by
      have : (Y.set 0 128).length = 128 := by rw [HY.out]; simp
      simp only [over, List.length_append, List.length_take, List.length_drop, this, beN_length]
      omega
    have HB := Lib.hid hb
    have HKR := Lib.hid hkr
    have HLEN := Lib.hid hlen
    match j, hj with
    | 0, _ =>
      have c1 := HB.out.cell (N + 1 + 0) (by rw [HLEN.out]; omega)
      have f1 := HB.out.free (N + 1 + 0)
      clear hb hkr hlen
      go_wp2_with fail
      go_roundw
      case rel =>
        refine ⟨1, by omega, by go_num, ?_, HKR.out.setCell (.inl (by simp)) _⟩
        have hl8 : (beN 8 L).length = 8 := beN_length _ _
        have hb2 := HB.out.set (N + 1 + 0) ((beN 8 L)[0]'(by omega))
        rw [over_take_succ (by omega) (by rw [hl8, HY.out]; simp; omega)] at hb2
        have e : (beN 8 L)[0]'(by omega) = UInt8.ofNat ((L / 72057594037927936) % 256) := by simp only [beN8]; rfl
        have e2 : B ((beN 8 L)[0]'(by omega)) = .int .u8 ((L : Int) / 72057594037927936 % 256) := by rw [e, B_mod]; rfl
        rw [e2] at hb2
        exact hb2
      case measure => simp [intOf]
    | 1, _ =>
      have c1 := HB.out.cell (N + 1 + 1) (by rw [HLEN.out]; omega)
      have f1 := HB.out.free (N + 1 + 1)
      clear hb hkr hlen
      go_wp2_with fail
      go_roundw
      case rel =>
        refine ⟨2, by omega, by go_num, ?_, HKR.out.setCell (.inl (by simp)) _⟩
        have hl8 : (beN 8 L).length = 8 := beN_length _ _
        have hb2 := HB.out.set (N + 1 + 1) ((beN 8 L)[1]'(by omega))
        rw [over_take_succ (by omega) (by rw [hl8, HY.out]; simp; omega)] at hb2
        have e : (beN 8 L)[1]'(by omega) = UInt8.ofNat ((L / 281474976710656) % 256) := by simp only [beN8]; rfl
        have e2 : B ((beN 8 L)[1]'(by omega)) = .int .u8 ((L : Int) / 281474976710656 % 256) := by rw [e, B_mod]; rfl
        rw [e2] at hb2
        exact hb2
      case measure => simp [intOf]
    | 2, _ =>
      have c1 := HB.out.cell (N + 1 + 2) (by rw [HLEN.out]; omega)
      have f1 := HB.out.free (N + 1 + 2)
      clear hb hkr hlen
      go_wp2_with fail
      go_roundw
      case rel =>
        refine ⟨3, by omega, by go_num, ?_, HKR.out.setCell (.inl (by simp)) _⟩
        have hl8 : (beN 8 L).length = 8 := beN_length _ _
        have hb2 := HB.out.set (N + 1 + 2) ((beN 8 L)[2]'(by omega))
        rw [over_take_succ (by omega) (by rw [hl8, HY.out]; simp; omega)] at hb2
        have e : (beN 8 L)[2]'(by omega) = UInt8.ofNat ((L / 1099511627776) % 256) := by simp only [beN8]; rfl
        have e2 : B ((beN 8 L)[2]'(by omega)) = .int .u8 ((L : Int) / 1099511627776 % 256) := by rw [e, B_mod]; rfl
        rw [e2] at hb2
        exact hb2
      case measure => simp [intOf]
    | 3, _ =>
      have c1 := HB.out.cell (N + 1 + 3) (by rw [HLEN.out]; omega)
      have f1 := HB.out.free (N + 1 + 3)
      clear hb hkr hlen
      go_wp2_with fail
      go_roundw
      case rel =>
        refine ⟨4, by omega, by go_num, ?_, HKR.out.setCell (.inl (by simp)) _⟩
        have hl8 : (beN 8 L).length = 8 := beN_length _ _
        have hb2 := HB.out.set (N + 1 + 3) ((beN 8 L)[3]'(by omega))
        rw [over_take_succ (by omega) (by rw [hl8, HY.out]; simp; omega)] at hb2
        have e : (beN 8 L)[3]'(by omega) = UInt8.ofNat ((L / 4294967296) % 256) := by simp only [beN8]; rfl
        have e2 : B ((beN 8 L)[3]'(by omega)) = .int .u8 ((L : Int) / 4294967296 % 256) := by rw [e, B_mod]; rfl
        rw [e2] at hb2
        exact hb2
      case measure => simp [intOf]
    | 4, _ =>
      have c1 := HB.out.cell (N + 1 + 4) (by rw [HLEN.out]; omega)
      have f1 := HB.out.free (N + 1 + 4)
      clear hb hkr hlen
      go_wp2_with fail
      go_roundw
      case rel =>
        refine ⟨5, by omega, by go_num, ?_, HKR.out.setCell (.inl (by simp)) _⟩
        have hl8 : (beN 8 L).length = 8 := beN_length _ _
        have hb2 := HB.out.set (N + 1 + 4) ((beN 8 L)[4]'(by omega))
        rw [over_take_succ (by omega) (by rw [hl8, HY.out]; simp; omega)] at hb2
        have e : (beN 8 L)[4]'(by omega) = UInt8.ofNat ((L / 16777216) % 256) := by simp only [beN8]; rfl
        have e2 : B ((beN 8 L)[4]'(by omega)) = .int .u8 ((L : Int) / 16777216 % 256) := by rw [e, B_mod]; rfl
        rw [e2] at hb2
        exact hb2
      case measure => simp [intOf]
    | 5, _ =>
      have c1 := HB.out.cell (N + 1 + 5) (by rw [HLEN.out]; omega)
      have f1 := HB.out.free (N + 1 + 5)
      clear hb hkr hlen
      go_wp2_with fail
      go_roundw
      case rel =>
        refine ⟨6, by omega, by go_num, ?_, HKR.out.setCell (.inl (by simp)) _⟩
        have hl8 : (beN 8 L).length = 8 := beN_length _ _
        have hb2 := HB.out.set (N + 1 + 5) ((beN 8 L)[5]'(by omega))
        rw [over_take_succ (by omega) (by rw [hl8, HY.out]; simp; omega)] at hb2
        have e : (beN 8 L)[5]'(by omega) = UInt8.ofNat ((L / 65536) % 256) := by simp only [beN8]; rfl
        have e2 : B ((beN 8 L)[5]'(by omega)) = .int .u8 ((L : Int) / 65536 % 256) := by rw [e, B_mod]; rfl
        rw [e2] at hb2
        exact hb2
      case measure => simp [intOf]
    | 6, _ =>
      have c1 := HB.out.cell (N + 1 + 6) (by rw [HLEN.out]; omega)
      have f1 := HB.out.free (N + 1 + 6)
      clear hb hkr hlen
      go_wp2_with fail
      go_roundw
      case rel =>
        refine ⟨7, by omega, by go_num, ?_, HKR.out.setCell (.inl (by simp)) _⟩
        have hl8 : (beN 8 L).length = 8 := beN_length _ _
        have hb2 := HB.out.set (N + 1 + 6) ((beN 8 L)[6]'(by omega))
        rw [over_take_succ (by omega) (by rw [hl8, HY.out]; simp; omega)] at hb2
        have e : (beN 8 L)[6]'(by omega) = UInt8.ofNat ((L / 256) % 256) := by simp only [beN8]; rfl
        have e2 : B ((beN 8 L)[6]'(by omega)) = .int .u8 ((L : Int) / 256 % 256) := by rw [e, B_mod]; rfl
        rw [e2] at hb2
        exact hb2
      case measure => simp [intOf]
    | 7, _ =>
      have c1 := HB.out.cell (N + 1 + 7) (by rw [HLEN.out]; omega)
      have f1 := HB.out.free (N + 1 + 7)
      clear hb hkr hlen
      go_wp2_with fail
      go_roundw
      case rel =>
        refine ⟨8, by omega, by go_num, ?_, HKR.out.setCell (.inl (by simp)) _⟩
        have hl8 : (beN 8 L).length = 8 := beN_length _ _
        have hb2 := HB.out.set (N + 1 + 7) ((beN 8 L)[7]'(by omega))
        rw [over_take_succ (by omega) (by rw [hl8, HY.out]; simp; omega)] at hb2
        have e : (beN 8 L)[7]'(by omega) = UInt8.ofNat ((L) % 256) := by simp only [beN8]; rfl
        have e2 : B ((beN 8 L)[7]'(by omega)) = .int .u8 ((L : Int) % 256) := by rw [e, B_mod]; rfl
        rw [e2] at hb2
        exact hb2
      case measure => simp [intOf]
    | 8, _ =>
      have hz : (beN 8 L).take 8 = beN 8 L := List.take_of_length_le (by rw [beN_length]; omega)
      have hbb : BytesAt wr (.slice (some ⟨q2, 0, none⟩) ((N + 9 : Nat) : Nat) 128) ((over (Y.set 0 128) (N + 1) (beN 8 L)).take (N + 9)) := by
        have h0 := HB.out
        rw [hz] at h0
        have := Blk.part h0 0 (N + 9) 128 (by have := HLEN.out; rw [hz] at this; omega) (by omega) (by simp [maxLen])
        simpa using this
      have hpad := pad_tail (m := m) (V := Y.set 0 128) (N := N) (L := L) (by rw [HN.out, HM.out.1]) HL.out (by rw [HY.out])
      obtain ⟨tl, htl⟩ : ∃ tl, tl = (over (Y.set 0 128) (N + 1) (beN 8 L)).take (N + 9) := ⟨_, rfl⟩
      rw [← htl] at hbb hpad
      have hk3r : Keeps [q2] w3 wr := (HK34.out.mono (G := [q2]) (by simp)).trans (G := [q2]) HKR.out (fun j hj => .inl hj)
      have hIr : HIn wr q1 s r k T := HI3.out.keeps hk3r (by simp; omega)
      have hH : HashAt wr q1 m := ⟨r, by rw [← HS.out, ← HM.out.1, ← HM.out.2]; exact hIr, HR.out⟩
      have hkwr : Keeps [] w wr := HK3.out.trans (G := [q2]) hk3r (fun j hj => .inr (by simp at hj; subst hj; omega))
      have htr : Tabs wr := HT.out.keeps hkwr (by simp) (by simp)
      have hgl := HT.out.lt
      have hwrite := write_any hH hbb (fun k hk => by have := elem_block_some hk; omega) htr (by omega) (by omega)
      rw [hpad] at hwrite
      have HWRITE := Lib.hid hwrite
      have HSL := Lib.hid (show ∀ wx, (Instr.sliceAt 144 (.pointer (some ⟨q2, 0, none⟩)) none (some (.int .i64 ((N + 9 : Nat) : Int))) none).run Tryd.prog wx = .ok (.slice (some ⟨q2, 0, none⟩) (N + 9) 128) wx from fun wx => run_128_to wx q2 (N + 9) (by omega))
      have e9 : (N : Int) + 1 + 8 = ((N + 9 : Nat) : Int) := by omega
      have HKWR := Lib.hid hkwr
      have HK3R := Lib.hid hk3r
      clear hb hkr hlen hz hbb hpad htl hk3r hIr hH hkwr htr hgl hwrite
      go_upto_region 11 with fail
      go_upto_region 12 with (first | (refine wl_slice rfl 144 (.tmp 5) none (some (.tmp 39)) none rfl ?_; (try simp only [Option.map]); refine ⟨_, _, by first | exact HSL.out _ | (rw [e9]; exact HSL.out _) | (simp only [Act.eval]; rw [e9]; exact HSL.out _), ?_⟩; try simp only [Act.put, List.setIfInBounds_toArray, List.set_cons_zero, List.set_cons_succ, List.getElem_toArray, List.getElem_cons_zero, List.getElem_cons_succ]) | (go_at_call 54; refine HWRITE.out.mono ?_; rintro e w5 ⟨rfl, hH5, hk5⟩))
      obtain ⟨r5, hI5, _⟩ := hH5.cells
      obtain ⟨S, hS⟩ : ∃ S, S = hState (shaPad m) := ⟨_, rfl⟩
      have hsha : shaL m = S.bytes := by rw [hS]; rfl
      rw [← hS] at hI5
      obtain ⟨s0, s1, s2, s3, s4, s5, s6, s7⟩ := S
      obtain ⟨Sb, hSb⟩ : ∃ Sb, Sb = S8.bytes ⟨s0, s1, s2, s3, s4, s5, s6, s7⟩ := ⟨_, rfl⟩
      have hSl : Sb.length = 32 := by rw [hSb]; simp [S8.bytes, beN_length]
      rw [← hSb] at hsha
      obtain ⟨q3, hq3⟩ : ∃ x, x = w5.heap.size := ⟨_, rfl⟩
      obtain ⟨w6, hw6⟩ : ∃ x, x = w5.alloc (.cells X 52 (0, 0)) := ⟨_, rfl⟩
      have b6 : Blk w6 q3 52 (List.replicate 32 (0 : UInt8)) := by rw [hw6, HX.out]; exact (heap_new_at hq3).trans rfl
      have k56 : Keeps [] w5 w6 := by rw [hw6]; exact (Keeps.refl _ _).alloc _
      have hI6 := hI5.keeps k56 (by simp)
      have hrng : w6.rangeAt q1 0 [.int .u32 s0, .int .u32 s1, .int .u32 s2, .int .u32 s3, .int .u32 s4, .int .u32 s5, .int .u32 s6, .int .u32 s7] := rangeAt_part (xs := []) (ys := [.int .u32 s0, .int .u32 s1, .int .u32 s2, .int .u32 s3, .int .u32 s4, .int .u32 s5, .int .u32 s6, .int .u32 s7]) hI6.row
      have hq23 : q1 < q3 := by rw [hq3]; exact hI5.lt
      have hres5 : w5.heap[q]? = some (.cells X 52 (0, 0)) := by
        have h3 := lt_of_heap HRES.out
        have hqlt : q ≠ q1 ∧ q ≠ q2 := by
          have := HQ.out
          omega
        have ha := (HK3R.out.block q h3 (by simp; exact hqlt.2)).trans HRES.out
        exact (hk5.block q (lt_of_heap ha) (by simp; exact hqlt.1)).trans ha
      have hqq3 : q < q3 := by rw [hq3]; exact lt_of_heap hres5
      have hk05 : Keeps [] w w6 := (HKWR.out.trans (G := [q1]) hk5 (fun j hj => .inr (by simp at hj; subst hj; omega))).trans (G := []) k56 (by simp)
      have hres6 := (k56.block q (lt_of_heap hres5) (by simp)).trans hres5
      have HRNG := Lib.hid hrng
      have HW6 := Lib.hid hw6
      have HQ3 := Lib.hid hq3
      have HB6 := Lib.hid b6
      have HK06 := Lib.hid hk05
      have HRES6 := Lib.hid hres6
      have HSHA := Lib.hid hsha
      have HSB := Lib.hid hSb
      have HSL32 := Lib.hid hSl
      clear hH5 hk5 hI5 hS hsha hSb hSl hq3 hw6 b6 k56 hI6 hrng hres5 hk05 hres6
      go_upto_region 13 with (first | (refine wl_alloc rfl 52 rfl ?_; refine ⟨_, _, run_alloc _ HXI.out, ?_⟩; (try simp only [Value.cells]); rw [← HW6.out, ← HQ3.out]; try simp only [Act.put, List.setIfInBounds_toArray, List.set_cons_zero, List.set_cons_succ, List.getElem_toArray, List.getElem_cons_zero, List.getElem_cons_succ]))
      go_wp2_with (first | (refine wpList_load_mid rfl 122 (.tmp 42) rfl q1 0 (by rfl) [.int .u32 s0, .int .u32 s1, .int .u32 s2, .int .u32 s3, .int .u32 s4, .int .u32 s5, .int .u32 s6, .int .u32 s7] _ HRNG.out Tryd.underlying122 rfl (by kernel_rfl) ?_; try simp only [Act.put, List.setIfInBounds_toArray, List.set_cons_zero, List.set_cons_succ, List.getElem_toArray, List.getElem_cons_zero, List.getElem_cons_succ]))
      go_loopw [44] (fun iv wx => ∃ j : Nat, j ≤ 8 ∧ iv = .int .i64 j ∧ Blk wx q3 52 (over (List.replicate 32 (0 : UInt8)) 0 (Sb.take (4 * j))) ∧ Keeps [q3] w6 wx) (fun iv _ => 8 - (intOf iv).toNat)
      case atStart => exact ⟨0, by omega, rfl, HB6.out, Keeps.refl _ _⟩
      case round =>
        obtain ⟨j, hj, rfl, hbd, hkd⟩ := hrel
        have hld : (over (List.replicate 32 (0 : UInt8)) 0 (Sb.take (4 * j))).length = 32 := by
          have := HSL32.out
          simp only [over, List.length_append, List.length_take, List.length_drop, List.length_replicate]
          omega
        have HBD := Lib.hid hbd
        have HKD := Lib.hid hkd
        have HLD := Lib.hid hld
        match j, hj with
        | 0, _ =>
          have i1 : ∀ w, (Instr.index 122 (.agg #[.int .u32 s0, .int .u32 s1, .int .u32 s2, .int .u32 s3, .int .u32 s4, .int .u32 s5, .int .u32 s6, .int .u32 s7]) (.int .i64 ((0 : Nat) : Int))).run Tryd.prog w = .ok (.int .u32 s0) w := fun _ => by kernel_rfl
          have c0 := HBD.out.cell 0 (by rw [HLD.out]; omega)
          have f0 := HBD.out.free 0
          have c1 := HBD.out.cell 1 (by rw [HLD.out]; omega)
          have f1 := HBD.out.free 1
          have c2 := HBD.out.cell 2 (by rw [HLD.out]; omega)
          have f2 := HBD.out.free 2
          have c3 := HBD.out.cell 3 (by rw [HLD.out]; omega)
          have f3 := HBD.out.free 3
          clear hbd hkd hld
          go_wp2_with (first | (refine wl_index rfl 122 (.tmp 43) (.tmp 44) rfl ?_; refine ⟨_, _, i1 _, ?_⟩; try simp only [Act.put, List.setIfInBounds_toArray, List.set_cons_zero, List.set_cons_succ, List.getElem_toArray, List.getElem_cons_zero, List.getElem_cons_succ]))
          go_roundw
          case rel =>
            refine ⟨1, by omega, by go_num, ?_, (((HKD.out.setCell (.inl (by simp)) _).setCell (.inl (by simp)) _).setCell (.inl (by simp)) _).setCell (.inl (by simp)) _⟩
            have hb0 := HBD.out
            have e0 : B (Sb[0]'(by rw [HSL32.out]; omega)) = .int .u8 ((s0 : Int) / 16777216 % 256) := by rw [show Sb[0]'(by rw [HSL32.out]; omega) = UInt8.ofNat ((s0 / 16777216) % 256) from by simp only [HSB.out, S8.bytes, beN4]; rfl, B_mod]; rfl
            have hb1 := hb0.set (0 + 0) (Sb[0]'(by rw [HSL32.out]; omega))
            rw [over_take_succ (by rw [HSL32.out]; omega) (by rw [HSL32.out]; simp), e0] at hb1
            have e1 : B (Sb[1]'(by rw [HSL32.out]; omega)) = .int .u8 ((s0 : Int) / 65536 % 256) := by rw [show Sb[1]'(by rw [HSL32.out]; omega) = UInt8.ofNat ((s0 / 65536) % 256) from by simp only [HSB.out, S8.bytes, beN4]; rfl, B_mod]; rfl
            have hb2 := hb1.set (0 + 1) (Sb[1]'(by rw [HSL32.out]; omega))
            rw [over_take_succ (by rw [HSL32.out]; omega) (by rw [HSL32.out]; simp), e1] at hb2
            have e2 : B (Sb[2]'(by rw [HSL32.out]; omega)) = .int .u8 ((s0 : Int) / 256 % 256) := by rw [show Sb[2]'(by rw [HSL32.out]; omega) = UInt8.ofNat ((s0 / 256) % 256) from by simp only [HSB.out, S8.bytes, beN4]; rfl, B_mod]; rfl
            have hb3 := hb2.set (0 + 2) (Sb[2]'(by rw [HSL32.out]; omega))
            rw [over_take_succ (by rw [HSL32.out]; omega) (by rw [HSL32.out]; simp), e2] at hb3
            have e3 : B (Sb[3]'(by rw [HSL32.out]; omega)) = .int .u8 ((s0 : Int) % 256) := by rw [show Sb[3]'(by rw [HSL32.out]; omega) = UInt8.ofNat ((s0) % 256) from by simp only [HSB.out, S8.bytes, beN4]; rfl, B_mod]; rfl
            have hb4 := hb3.set (0 + 3) (Sb[3]'(by rw [HSL32.out]; omega))
            rw [over_take_succ (by rw [HSL32.out]; omega) (by rw [HSL32.out]; simp), e3] at hb4
            exact hb4
          case measure => simp [intOf]
        | 1, _ =>
          have i1 : ∀ w, (Instr.index 122 (.agg #[.int .u32 s0, .int .u32 s1, .int .u32 s2, .int .u32 s3, .int .u32 s4, .int .u32 s5, .int .u32 s6, .int .u32 s7]) (.int .i64 ((1 : Nat) : Int))).run Tryd.prog w = .ok (.int .u32 s1) w := fun _ => by kernel_rfl
          have c0 := HBD.out.cell 4 (by rw [HLD.out]; omega)
          have f0 := HBD.out.free 4
          have c1 := HBD.out.cell 5 (by rw [HLD.out]; omega)
          have f1 := HBD.out.free 5
          have c2 := HBD.out.cell 6 (by rw [HLD.out]; omega)
          have f2 := HBD.out.free 6
          have c3 := HBD.out.cell 7 (by rw [HLD.out]; omega)
          have f3 := HBD.out.free 7
          clear hbd hkd hld
          go_wp2_with (first | (refine wl_index rfl 122 (.tmp 43) (.tmp 44) rfl ?_; refine ⟨_, _, i1 _, ?_⟩; try simp only [Act.put, List.setIfInBounds_toArray, List.set_cons_zero, List.set_cons_succ, List.getElem_toArray, List.getElem_cons_zero, List.getElem_cons_succ]))
          go_roundw
          case rel =>
            refine ⟨2, by omega, by go_num, ?_, (((HKD.out.setCell (.inl (by simp)) _).setCell (.inl (by simp)) _).setCell (.inl (by simp)) _).setCell (.inl (by simp)) _⟩
            have hb0 := HBD.out
            have e0 : B (Sb[4]'(by rw [HSL32.out]; omega)) = .int .u8 ((s1 : Int) / 16777216 % 256) := by rw [show Sb[4]'(by rw [HSL32.out]; omega) = UInt8.ofNat ((s1 / 16777216) % 256) from by simp only [HSB.out, S8.bytes, beN4]; rfl, B_mod]; rfl
            have hb1 := hb0.set (0 + 4) (Sb[4]'(by rw [HSL32.out]; omega))
            rw [over_take_succ (by rw [HSL32.out]; omega) (by rw [HSL32.out]; simp), e0] at hb1
            have e1 : B (Sb[5]'(by rw [HSL32.out]; omega)) = .int .u8 ((s1 : Int) / 65536 % 256) := by rw [show Sb[5]'(by rw [HSL32.out]; omega) = UInt8.ofNat ((s1 / 65536) % 256) from by simp only [HSB.out, S8.bytes, beN4]; rfl, B_mod]; rfl
            have hb2 := hb1.set (0 + 5) (Sb[5]'(by rw [HSL32.out]; omega))
            rw [over_take_succ (by rw [HSL32.out]; omega) (by rw [HSL32.out]; simp), e1] at hb2
            have e2 : B (Sb[6]'(by rw [HSL32.out]; omega)) = .int .u8 ((s1 : Int) / 256 % 256) := by rw [show Sb[6]'(by rw [HSL32.out]; omega) = UInt8.ofNat ((s1 / 256) % 256) from by simp only [HSB.out, S8.bytes, beN4]; rfl, B_mod]; rfl
            have hb3 := hb2.set (0 + 6) (Sb[6]'(by rw [HSL32.out]; omega))
            rw [over_take_succ (by rw [HSL32.out]; omega) (by rw [HSL32.out]; simp), e2] at hb3
            have e3 : B (Sb[7]'(by rw [HSL32.out]; omega)) = .int .u8 ((s1 : Int) % 256) := by rw [show Sb[7]'(by rw [HSL32.out]; omega) = UInt8.ofNat ((s1) % 256) from by simp only [HSB.out, S8.bytes, beN4]; rfl, B_mod]; rfl
            have hb4 := hb3.set (0 + 7) (Sb[7]'(by rw [HSL32.out]; omega))
            rw [over_take_succ (by rw [HSL32.out]; omega) (by rw [HSL32.out]; simp), e3] at hb4
            exact hb4
          case measure => simp [intOf]
        | 2, _ =>
          have i1 : ∀ w, (Instr.index 122 (.agg #[.int .u32 s0, .int .u32 s1, .int .u32 s2, .int .u32 s3, .int .u32 s4, .int .u32 s5, .int .u32 s6, .int .u32 s7]) (.int .i64 ((2 : Nat) : Int))).run Tryd.prog w = .ok (.int .u32 s2) w := fun _ => by kernel_rfl
          have c0 := HBD.out.cell 8 (by rw [HLD.out]; omega)
          have f0 := HBD.out.free 8
          have c1 := HBD.out.cell 9 (by rw [HLD.out]; omega)
          have f1 := HBD.out.free 9
          have c2 := HBD.out.cell 10 (by rw [HLD.out]; omega)
          have f2 := HBD.out.free 10
          have c3 := HBD.out.cell 11 (by rw [HLD.out]; omega)
          have f3 := HBD.out.free 11
          clear hbd hkd hld
          go_wp2_with (first | (refine wl_index rfl 122 (.tmp 43) (.tmp 44) rfl ?_; refine ⟨_, _, i1 _, ?_⟩; try simp only [Act.put, List.setIfInBounds_toArray, List.set_cons_zero, List.set_cons_succ, List.getElem_toArray, List.getElem_cons_zero, List.getElem_cons_succ]))
          go_roundw
          case rel =>
            refine ⟨3, by omega, by go_num, ?_, (((HKD.out.setCell (.inl (by simp)) _).setCell (.inl (by simp)) _).setCell (.inl (by simp)) _).setCell (.inl (by simp)) _⟩
            have hb0 := HBD.out
            have e0 : B (Sb[8]'(by rw [HSL32.out]; omega)) = .int .u8 ((s2 : Int) / 16777216 % 256) := by rw [show Sb[8]'(by rw [HSL32.out]; omega) = UInt8.ofNat ((s2 / 16777216) % 256) from by simp only [HSB.out, S8.bytes, beN4]; rfl, B_mod]; rfl
            have hb1 := hb0.set (0 + 8) (Sb[8]'(by rw [HSL32.out]; omega))
            rw [over_take_succ (by rw [HSL32.out]; omega) (by rw [HSL32.out]; simp), e0] at hb1
            have e1 : B (Sb[9]'(by rw [HSL32.out]; omega)) = .int .u8 ((s2 : Int) / 65536 % 256) := by rw [show Sb[9]'(by rw [HSL32.out]; omega) = UInt8.ofNat ((s2 / 65536) % 256) from by simp only [HSB.out, S8.bytes, beN4]; rfl, B_mod]; rfl
            have hb2 := hb1.set (0 + 9) (Sb[9]'(by rw [HSL32.out]; omega))
            rw [over_take_succ (by rw [HSL32.out]; omega) (by rw [HSL32.out]; simp), e1] at hb2
            have e2 : B (Sb[10]'(by rw [HSL32.out]; omega)) = .int .u8 ((s2 : Int) / 256 % 256) := by rw [show Sb[10]'(by rw [HSL32.out]; omega) = UInt8.ofNat ((s2 / 256) % 256) from by simp only [HSB.out, S8.bytes, beN4]; rfl, B_mod]; rfl
            have hb3 := hb2.set (0 + 10) (Sb[10]'(by rw [HSL32.out]; omega))
            rw [over_take_succ (by rw [HSL32.out]; omega) (by rw [HSL32.out]; simp), e2] at hb3
            have e3 : B (Sb[11]'(by rw [HSL32.out]; omega)) = .int .u8 ((s2 : Int) % 256) := by rw [show Sb[11]'(by rw [HSL32.out]; omega) = UInt8.ofNat ((s2) % 256) from by simp only [HSB.out, S8.bytes, beN4]; rfl, B_mod]; rfl
            have hb4 := hb3.set (0 + 11) (Sb[11]'(by rw [HSL32.out]; omega))
            rw [over_take_succ (by rw [HSL32.out]; omega) (by rw [HSL32.out]; simp), e3] at hb4
            exact hb4
          case measure => simp [intOf]
        | 3, _ =>
          have i1 : ∀ w, (Instr.index 122 (.agg #[.int .u32 s0, .int .u32 s1, .int .u32 s2, .int .u32 s3, .int .u32 s4, .int .u32 s5, .int .u32 s6, .int .u32 s7]) (.int .i64 ((3 : Nat) : Int))).run Tryd.prog w = .ok (.int .u32 s3) w := fun _ => by kernel_rfl
          have c0 := HBD.out.cell 12 (by rw [HLD.out]; omega)
          have f0 := HBD.out.free 12
          have c1 := HBD.out.cell 13 (by rw [HLD.out]; omega)
          have f1 := HBD.out.free 13
          have c2 := HBD.out.cell 14 (by rw [HLD.out]; omega)
          have f2 := HBD.out.free 14
          have c3 := HBD.out.cell 15 (by rw [HLD.out]; omega)
          have f3 := HBD.out.free 15
          clear hbd hkd hld
          go_wp2_with (first | (refine wl_index rfl 122 (.tmp 43) (.tmp 44) rfl ?_; refine ⟨_, _, i1 _, ?_⟩; try simp only [Act.put, List.setIfInBounds_toArray, List.set_cons_zero, List.set_cons_succ, List.getElem_toArray, List.getElem_cons_zero, List.getElem_cons_succ]))
          go_roundw
          case rel =>
            refine ⟨4, by omega, by go_num, ?_, (((HKD.out.setCell (.inl (by simp)) _).setCell (.inl (by simp)) _).setCell (.inl (by simp)) _).setCell (.inl (by simp)) _⟩
            have hb0 := HBD.out
            have e0 : B (Sb[12]'(by rw [HSL32.out]; omega)) = .int .u8 ((s3 : Int) / 16777216 % 256) := by rw [show Sb[12]'(by rw [HSL32.out]; omega) = UInt8.ofNat ((s3 / 16777216) % 256) from by simp only [HSB.out, S8.bytes, beN4]; rfl, B_mod]; rfl
            have hb1 := hb0.set (0 + 12) (Sb[12]'(by rw [HSL32.out]; omega))
            rw [over_take_succ (by rw [HSL32.out]; omega) (by rw [HSL32.out]; simp), e0] at hb1
            have e1 : B (Sb[13]'(by rw [HSL32.out]; omega)) = .int .u8 ((s3 : Int) / 65536 % 256) := by rw [show Sb[13]'(by rw [HSL32.out]; omega) = UInt8.ofNat ((s3 / 65536) % 256) from by simp only [HSB.out, S8.bytes, beN4]; rfl, B_mod]; rfl
            have hb2 := hb1.set (0 + 13) (Sb[13]'(by rw [HSL32.out]; omega))
            rw [over_take_succ (by rw [HSL32.out]; omega) (by rw [HSL32.out]; simp), e1] at hb2
            have e2 : B (Sb[14]'(by rw [HSL32.out]; omega)) = .int .u8 ((s3 : Int) / 256 % 256) := by rw [show Sb[14]'(by rw [HSL32.out]; omega) = UInt8.ofNat ((s3 / 256) % 256) from by simp only [HSB.out, S8.bytes, beN4]; rfl, B_mod]; rfl
            have hb3 := hb2.set (0 + 14) (Sb[14]'(by rw [HSL32.out]; omega))
            rw [over_take_succ (by rw [HSL32.out]; omega) (by rw [HSL32.out]; simp), e2] at hb3
            have e3 : B (Sb[15]'(by rw [HSL32.out]; omega)) = .int .u8 ((s3 : Int) % 256) := by rw [show Sb[15]'(by rw [HSL32.out]; omega) = UInt8.ofNat ((s3) % 256) from by simp only [HSB.out, S8.bytes, beN4]; rfl, B_mod]; rfl
            have hb4 := hb3.set (0 + 15) (Sb[15]'(by rw [HSL32.out]; omega))
            rw [over_take_succ (by rw [HSL32.out]; omega) (by rw [HSL32.out]; simp), e3] at hb4
            exact hb4
          case measure => simp [intOf]
        | 4, _ =>
          have i1 : ∀ w, (Instr.index 122 (.agg #[.int .u32 s0, .int .u32 s1, .int .u32 s2, .int .u32 s3, .int .u32 s4, .int .u32 s5, .int .u32 s6, .int .u32 s7]) (.int .i64 ((4 : Nat) : Int))).run Tryd.prog w = .ok (.int .u32 s4) w := fun _ => by kernel_rfl
          have c0 := HBD.out.cell 16 (by rw [HLD.out]; omega)
          have f0 := HBD.out.free 16
          have c1 := HBD.out.cell 17 (by rw [HLD.out]; omega)
          have f1 := HBD.out.free 17
          have c2 := HBD.out.cell 18 (by rw [HLD.out]; omega)
          have f2 := HBD.out.free 18
          have c3 := HBD.out.cell 19 (by rw [HLD.out]; omega)
          have f3 := HBD.out.free 19
          clear hbd hkd hld
          go_wp2_with (first | (refine wl_index rfl 122 (.tmp 43) (.tmp 44) rfl ?_; refine ⟨_, _, i1 _, ?_⟩; try simp only [Act.put, List.setIfInBounds_toArray, List.set_cons_zero, List.set_cons_succ, List.getElem_toArray, List.getElem_cons_zero, List.getElem_cons_succ]))
          go_roundw
          case rel =>
            refine ⟨5, by omega, by go_num, ?_, (((HKD.out.setCell (.inl (by simp)) _).setCell (.inl (by simp)) _).setCell (.inl (by simp)) _).setCell (.inl (by simp)) _⟩
            have hb0 := HBD.out
            have e0 : B (Sb[16]'(by rw [HSL32.out]; omega)) = .int .u8 ((s4 : Int) / 16777216 % 256) := by rw [show Sb[16]'(by rw [HSL32.out]; omega) = UInt8.ofNat ((s4 / 16777216) % 256) from by simp only [HSB.out, S8.bytes, beN4]; rfl, B_mod]; rfl
            have hb1 := hb0.set (0 + 16) (Sb[16]'(by rw [HSL32.out]; omega))
            rw [over_take_succ (by rw [HSL32.out]; omega) (by rw [HSL32.out]; simp), e0] at hb1
            have e1 : B (Sb[17]'(by rw [HSL32.out]; omega)) = .int .u8 ((s4 : Int) / 65536 % 256) := by rw [show Sb[17]'(by rw [HSL32.out]; omega) = UInt8.ofNat ((s4 / 65536) % 256) from by simp only [HSB.out, S8.bytes, beN4]; rfl, B_mod]; rfl
            have hb2 := hb1.set (0 + 17) (Sb[17]'(by rw [HSL32.out]; omega))
            rw [over_take_succ (by rw [HSL32.out]; omega) (by rw [HSL32.out]; simp), e1] at hb2
            have e2 : B (Sb[18]'(by rw [HSL32.out]; omega)) = .int .u8 ((s4 : Int) / 256 % 256) := by rw [show Sb[18]'(by rw [HSL32.out]; omega) = UInt8.ofNat ((s4 / 256) % 256) from by simp only [HSB.out, S8.bytes, beN4]; rfl, B_mod]; rfl
            have hb3 := hb2.set (0 + 18) (Sb[18]'(by rw [HSL32.out]; omega))
            rw [over_take_succ (by rw [HSL32.out]; omega) (by rw [HSL32.out]; simp), e2] at hb3
            have e3 : B (Sb[19]'(by rw [HSL32.out]; omega)) = .int .u8 ((s4 : Int) % 256) := by rw [show Sb[19]'(by rw [HSL32.out]; omega) = UInt8.ofNat ((s4) % 256) from by simp only [HSB.out, S8.bytes, beN4]; rfl, B_mod]; rfl
            have hb4 := hb3.set (0 + 19) (Sb[19]'(by rw [HSL32.out]; omega))
            rw [over_take_succ (by rw [HSL32.out]; omega) (by rw [HSL32.out]; simp), e3] at hb4
            exact hb4
          case measure => simp [intOf]
        | 5, _ =>
          have i1 : ∀ w, (Instr.index 122 (.agg #[.int .u32 s0, .int .u32 s1, .int .u32 s2, .int .u32 s3, .int .u32 s4, .int .u32 s5, .int .u32 s6, .int .u32 s7]) (.int .i64 ((5 : Nat) : Int))).run Tryd.prog w = .ok (.int .u32 s5) w := fun _ => by kernel_rfl
          have c0 := HBD.out.cell 20 (by rw [HLD.out]; omega)
          have f0 := HBD.out.free 20
          have c1 := HBD.out.cell 21 (by rw [HLD.out]; omega)
          have f1 := HBD.out.free 21
          have c2 := HBD.out.cell 22 (by rw [HLD.out]; omega)
          have f2 := HBD.out.free 22
          have c3 := HBD.out.cell 23 (by rw [HLD.out]; omega)
          have f3 := HBD.out.free 23
          clear hbd hkd hld
          go_wp2_with (first | (refine wl_index rfl 122 (.tmp 43) (.tmp 44) rfl ?_; refine ⟨_, _, i1 _, ?_⟩; try simp only [Act.put, List.setIfInBounds_toArray, List.set_cons_zero, List.set_cons_succ, List.getElem_toArray, List.getElem_cons_zero, List.getElem_cons_succ]))
          go_roundw
          case rel =>
            refine ⟨6, by omega, by go_num, ?_, (((HKD.out.setCell (.inl (by simp)) _).setCell (.inl (by simp)) _).setCell (.inl (by simp)) _).setCell (.inl (by simp)) _⟩
            have hb0 := HBD.out
            have e0 : B (Sb[20]'(by rw [HSL32.out]; omega)) = .int .u8 ((s5 : Int) / 16777216 % 256) := by rw [show Sb[20]'(by rw [HSL32.out]; omega) = UInt8.ofNat ((s5 / 16777216) % 256) from by simp only [HSB.out, S8.bytes, beN4]; rfl, B_mod]; rfl
            have hb1 := hb0.set (0 + 20) (Sb[20]'(by rw [HSL32.out]; omega))
            rw [over_take_succ (by rw [HSL32.out]; omega) (by rw [HSL32.out]; simp), e0] at hb1
            have e1 : B (Sb[21]'(by rw [HSL32.out]; omega)) = .int .u8 ((s5 : Int) / 65536 % 256) := by rw [show Sb[21]'(by rw [HSL32.out]; omega) = UInt8.ofNat ((s5 / 65536) % 256) from by simp only [HSB.out, S8.bytes, beN4]; rfl, B_mod]; rfl
            have hb2 := hb1.set (0 + 21) (Sb[21]'(by rw [HSL32.out]; omega))
            rw [over_take_succ (by rw [HSL32.out]; omega) (by rw [HSL32.out]; simp), e1] at hb2
            have e2 : B (Sb[22]'(by rw [HSL32.out]; omega)) = .int .u8 ((s5 : Int) / 256 % 256) := by rw [show Sb[22]'(by rw [HSL32.out]; omega) = UInt8.ofNat ((s5 / 256) % 256) from by simp only [HSB.out, S8.bytes, beN4]; rfl, B_mod]; rfl
            have hb3 := hb2.set (0 + 22) (Sb[22]'(by rw [HSL32.out]; omega))
            rw [over_take_succ (by rw [HSL32.out]; omega) (by rw [HSL32.out]; simp), e2] at hb3
            have e3 : B (Sb[23]'(by rw [HSL32.out]; omega)) = .int .u8 ((s5 : Int) % 256) := by rw [show Sb[23]'(by rw [HSL32.out]; omega) = UInt8.ofNat ((s5) % 256) from by simp only [HSB.out, S8.bytes, beN4]; rfl, B_mod]; rfl
            have hb4 := hb3.set (0 + 23) (Sb[23]'(by rw [HSL32.out]; omega))
            rw [over_take_succ (by rw [HSL32.out]; omega) (by rw [HSL32.out]; simp), e3] at hb4
            exact hb4
          case measure => simp [intOf]
        | 6, _ =>
          have i1 : ∀ w, (Instr.index 122 (.agg #[.int .u32 s0, .int .u32 s1, .int .u32 s2, .int .u32 s3, .int .u32 s4, .int .u32 s5, .int .u32 s6, .int .u32 s7]) (.int .i64 ((6 : Nat) : Int))).run Tryd.prog w = .ok (.int .u32 s6) w := fun _ => by kernel_rfl
          have c0 := HBD.out.cell 24 (by rw [HLD.out]; omega)
          have f0 := HBD.out.free 24
          have c1 := HBD.out.cell 25 (by rw [HLD.out]; omega)
          have f1 := HBD.out.free 25
          have c2 := HBD.out.cell 26 (by rw [HLD.out]; omega)
          have f2 := HBD.out.free 26
          have c3 := HBD.out.cell 27 (by rw [HLD.out]; omega)
          have f3 := HBD.out.free 27
          clear hbd hkd hld
          go_wp2_with (first | (refine wl_index rfl 122 (.tmp 43) (.tmp 44) rfl ?_; refine ⟨_, _, i1 _, ?_⟩; try simp only [Act.put, List.setIfInBounds_toArray, List.set_cons_zero, List.set_cons_succ, List.getElem_toArray, List.getElem_cons_zero, List.getElem_cons_succ]))
          go_roundw
          case rel =>
            refine ⟨7, by omega, by go_num, ?_, (((HKD.out.setCell (.inl (by simp)) _).setCell (.inl (by simp)) _).setCell (.inl (by simp)) _).setCell (.inl (by simp)) _⟩
            have hb0 := HBD.out
            have e0 : B (Sb[24]'(by rw [HSL32.out]; omega)) = .int .u8 ((s6 : Int) / 16777216 % 256) := by rw [show Sb[24]'(by rw [HSL32.out]; omega) = UInt8.ofNat ((s6 / 16777216) % 256) from by simp only [HSB.out, S8.bytes, beN4]; rfl, B_mod]; rfl
            have hb1 := hb0.set (0 + 24) (Sb[24]'(by rw [HSL32.out]; omega))
            rw [over_take_succ (by rw [HSL32.out]; omega) (by rw [HSL32.out]; simp), e0] at hb1
            have e1 : B (Sb[25]'(by rw [HSL32.out]; omega)) = .int .u8 ((s6 : Int) / 65536 % 256) := by rw [show Sb[25]'(by rw [HSL32.out]; omega) = UInt8.ofNat ((s6 / 65536) % 256) from by simp only [HSB.out, S8.bytes, beN4]; rfl, B_mod]; rfl
            have hb2 := hb1.set (0 + 25) (Sb[25]'(by rw [HSL32.out]; omega))
            rw [over_take_succ (by rw [HSL32.out]; omega) (by rw [HSL32.out]; simp), e1] at hb2
            have e2 : B (Sb[26]'(by rw [HSL32.out]; omega)) = .int .u8 ((s6 : Int) / 256 % 256) := by rw [show Sb[26]'(by rw [HSL32.out]; omega) = UInt8.ofNat ((s6 / 256) % 256) from by simp only [HSB.out, S8.bytes, beN4]; rfl, B_mod]; rfl
            have hb3 := hb2.set (0 + 26) (Sb[26]'(by rw [HSL32.out]; omega))
            rw [over_take_succ (by rw [HSL32.out]; omega) (by rw [HSL32.out]; simp), e2] at hb3
            have e3 : B (Sb[27]'(by rw [HSL32.out]; omega)) = .int .u8 ((s6 : Int) % 256) := by rw [show Sb[27]'(by rw [HSL32.out]; omega) = UInt8.ofNat ((s6) % 256) from by simp only [HSB.out, S8.bytes, beN4]; rfl, B_mod]; rfl
            have hb4 := hb3.set (0 + 27) (Sb[27]'(by rw [HSL32.out]; omega))
            rw [over_take_succ (by rw [HSL32.out]; omega) (by rw [HSL32.out]; simp), e3] at hb4
            exact hb4
          case measure => simp [intOf]
        | 7, _ =>
          have i1 : ∀ w, (Instr.index 122 (.agg #[.int .u32 s0, .int .u32 s1, .int .u32 s2, .int .u32 s3, .int .u32 s4, .int .u32 s5, .int .u32 s6, .int .u32 s7]) (.int .i64 ((7 : Nat) : Int))).run Tryd.prog w = .ok (.int .u32 s7) w := fun _ => by kernel_rfl
          have c0 := HBD.out.cell 28 (by rw [HLD.out]; omega)
          have f0 := HBD.out.free 28
          have c1 := HBD.out.cell 29 (by rw [HLD.out]; omega)
          have f1 := HBD.out.free 29
          have c2 := HBD.out.cell 30 (by rw [HLD.out]; omega)
          have f2 := HBD.out.free 30
          have c3 := HBD.out.cell 31 (by rw [HLD.out]; omega)
          have f3 := HBD.out.free 31
          clear hbd hkd hld
          go_wp2_with (first | (refine wl_index rfl 122 (.tmp 43) (.tmp 44) rfl ?_; refine ⟨_, _, i1 _, ?_⟩; try simp only [Act.put, List.setIfInBounds_toArray, List.set_cons_zero, List.set_cons_succ, List.getElem_toArray, List.getElem_cons_zero, List.getElem_cons_succ]))
          go_roundw
          case rel =>
            refine ⟨8, by omega, by go_num, ?_, (((HKD.out.setCell (.inl (by simp)) _).setCell (.inl (by simp)) _).setCell (.inl (by simp)) _).setCell (.inl (by simp)) _⟩
            have hb0 := HBD.out
            have e0 : B (Sb[28]'(by rw [HSL32.out]; omega)) = .int .u8 ((s7 : Int) / 16777216 % 256) := by rw [show Sb[28]'(by rw [HSL32.out]; omega) = UInt8.ofNat ((s7 / 16777216) % 256) from by simp only [HSB.out, S8.bytes, beN4]; rfl, B_mod]; rfl
            have hb1 := hb0.set (0 + 28) (Sb[28]'(by rw [HSL32.out]; omega))
            rw [over_take_succ (by rw [HSL32.out]; omega) (by rw [HSL32.out]; simp), e0] at hb1
            have e1 : B (Sb[29]'(by rw [HSL32.out]; omega)) = .int .u8 ((s7 : Int) / 65536 % 256) := by rw [show Sb[29]'(by rw [HSL32.out]; omega) = UInt8.ofNat ((s7 / 65536) % 256) from by simp only [HSB.out, S8.bytes, beN4]; rfl, B_mod]; rfl
            have hb2 := hb1.set (0 + 29) (Sb[29]'(by rw [HSL32.out]; omega))
            rw [over_take_succ (by rw [HSL32.out]; omega) (by rw [HSL32.out]; simp), e1] at hb2
            have e2 : B (Sb[30]'(by rw [HSL32.out]; omega)) = .int .u8 ((s7 : Int) / 256 % 256) := by rw [show Sb[30]'(by rw [HSL32.out]; omega) = UInt8.ofNat ((s7 / 256) % 256) from by simp only [HSB.out, S8.bytes, beN4]; rfl, B_mod]; rfl
            have hb3 := hb2.set (0 + 30) (Sb[30]'(by rw [HSL32.out]; omega))
            rw [over_take_succ (by rw [HSL32.out]; omega) (by rw [HSL32.out]; simp), e2] at hb3
            have e3 : B (Sb[31]'(by rw [HSL32.out]; omega)) = .int .u8 ((s7 : Int) % 256) := by rw [show Sb[31]'(by rw [HSL32.out]; omega) = UInt8.ofNat ((s7) % 256) from by simp only [HSB.out, S8.bytes, beN4]; rfl, B_mod]; rfl
            have hb4 := hb3.set (0 + 31) (Sb[31]'(by rw [HSL32.out]; omega))
            rw [over_take_succ (by rw [HSL32.out]; omega) (by rw [HSL32.out]; simp), e3] at hb4
            exact hb4
          case measure => simp [intOf]
        | 8, _ =>
          have hbe : Blk wr q3 52 Sb := by
            have := HBD.out
            rw [show over (List.replicate 32 (0 : UInt8)) 0 (Sb.take (4 * 8)) = Sb by
              rw [List.take_of_length_le (by rw [HSL32.out]; omega)]
              simp only [over, List.take_zero, List.nil_append, HSL32.out, List.drop_replicate]
              simp] at this
            exact this
          have hres7 : wr.heap[q]? = some (.cells (Array.replicate 32 (Value.int .u8 0)) 52 (0, 0)) := by
            rw [← HX.out]
            exact (HKD.out.block q (lt_of_heap HRES6.out) (by simp; omega)).trans HRES6.out
          have hkk : Keeps [] w wr := HK06.out.trans (G := [q3]) HKD.out (fun j hj => .inr (by simp at hj; subst hj; omega))
          have HBE := Lib.hid hbe
          have HRES7 := Lib.hid hres7
          have HKK := Lib.hid hkk
          have HSD := Lib.hid (show (Tryd.prog.info? 52).map (·.size) = some (Sb.map B).length by rw [List.length_map, HSL32.out]; exact dg_size)
          clear hbd hkd hld hbe hres7 hkk
          go_wp2_with (first | (refine wpList_load_mid rfl 52 (.tmp 8) rfl q3 0 (by rfl) (Sb.map B) _ (rangeAt_all HBE.out) Tryd.underlying52 rfl HSD.out ?_; try simp only [Act.put, List.setIfInBounds_toArray, List.set_cons_zero, List.set_cons_succ, List.getElem_toArray, List.getElem_cons_zero, List.getElem_cons_succ]) | (refine wl_store rfl 52 (.tmp 2) (.tmp 75) rfl ?_; refine ⟨_, dg_run_store HRES7.out HSL32.out, ?_⟩; try simp only [Act.put, List.setIfInBounds_toArray, List.set_cons_zero, List.set_cons_succ, List.getElem_toArray, List.getElem_cons_zero, List.getElem_cons_succ]))
          rw [HSHA.out]
          refine bodyPost_ret (results_row (cs := Sb.map B) rfl rfl (rangeAt_all (dg_store HRES7.out HSL32.out)) Tryd.underlying52 rfl HSD.out) rfl ⟨rfl, ?_⟩
          exact HKK.out.setCells (.inr (by rw [HQ.out]; exact Nat.le_refl _)) _ _
end Go.Proofs.YtojlojdkhegbkaaDoor

/-
  Package digest: Sum.
-/
namespace Go.Proofs.YtojlojdkhegbkaaDoor
set_option linter.unusedVariables false
set_option linter.unusedSimpArgs false
open Go.RowKit

set_option maxRecDepth 100000 in
theorem run_build_hasher (w : World) : (Instr.build 126 #[(0, .agg (shaIV.words.map W32).toArray)]).run Tryd.prog w = .ok (.agg (hCells shaIV (List.replicate 64 0) 0 0).toArray) w := by kernel_rfl
theorem Tabs.iv {w : World} (h : Tabs w) : w.rangeAt 0 0 (shaIV.words.map W32) := fun j v hv => by
  have hj : j < 8 := by
    have := (List.getElem?_eq_some_iff.1 hv).1
    exact this
  rw [Nat.zero_add, h.begin j hj]
  rw [List.getElem?_map, List.getElem?_eq_getElem (by exact hj)] at hv
  simp only [Option.map_some, Option.some.injEq] at hv
  rw [← hv, List.getD_eq_getElem?_getD, List.getElem?_eq_getElem (by exact hj)]
  rfl
set_option maxRecDepth 100000 in
set_option maxHeartbeats 3200000 in
theorem shaSum_any {w : World} {v : Value} {m : List UInt8} (hv : BytesAt w v m) (ht : Tabs w) :
    Calls Tryd.prog 38 #[v] w fun e w' => e = .returned (.agg ((shaL m).map B).toArray) ∧ Keeps [] w w' := by
  obtain ⟨D, hD⟩ : ∃ D, D = shaL m := ⟨_, rfl⟩
  have hDl : D.length = 32 := by rw [hD]; exact shaL_length m
  have HD := Lib.hid hD
  have HSHL := Lib.hid hDl
  have HSD := Lib.hid (show (Tryd.prog.info? 52).map (·.size) = some (D.map B).length by rw [List.length_map, hDl]; exact dg_size)
  rw [← hD]
  clear hD hDl
  obtain ⟨q, hq⟩ : ∃ q, q = w.heap.size := ⟨_, rfl⟩
  obtain ⟨a, c, rfl, hc1, hc2⟩ := hv.form
  obtain ⟨IV, hIV⟩ : ∃ IV, IV = shaIV.words.map W32 := ⟨_, rfl⟩
  obtain ⟨C, hC⟩ : ∃ C, C = hCells shaIV (List.replicate 64 0) 0 0 := ⟨_, rfl⟩
  have hCl : C.length = 74 := by rw [hC]; simp [hCells, S8.words]
  have hbld : ∀ w, (Instr.build 126 #[(0, .agg IV.toArray)]).run Tryd.prog w = .ok (.agg C.toArray) w := fun w => by rw [hIV, hC]; exact run_build_hasher w
  obtain ⟨Z, hZ, hZi⟩ : ∃ Z : List Value, Z.length = 74 ∧ (Tryd.prog.info? 126).map (fun i => (i.zero, i.size, i.bytes)) = some (some (.agg Z.toArray), 74, 112) := ⟨_, rfl, info_hasher⟩
  obtain ⟨X, hX, hXi⟩ : ∃ X : Array Value, X = Array.replicate 32 (.int .u8 0) ∧ (Tryd.prog.info? 52).map (fun i => (i.zero, i.size, i.bytes)) = some (some (.agg X), 32, 32) := ⟨_, rfl, info_digest⟩
  obtain ⟨w1, hw1⟩ : ∃ x, x = w.alloc (.cells X 52 (0, 0)) := ⟨_, rfl⟩
  obtain ⟨q1, hq1⟩ : ∃ x, x = w1.heap.size := ⟨_, rfl⟩
  obtain ⟨w2, hw2⟩ : ∃ x, x = w1.alloc (.cells Z.toArray 126 (0, 0)) := ⟨_, rfl⟩
  have k1 : Keeps [] w w1 := by rw [hw1]; exact (Keeps.refl _ _).alloc _
  have k2 : Keeps [] w w2 := by rw [hw2]; exact k1.alloc _
  have hrow1 : w1.rangeAt 0 0 IV := by rw [hIV]; exact (ht.keeps k1 (by simp) (by simp)).iv
  have hnew : w2.heap[q1]? = some (.cells Z.toArray 126 (0, 0)) := by rw [hw2]; exact heap_new_at hq1
  have hst : (Instr.storeAt 126 (.pointer (some ⟨q1, 0, none⟩)) (.agg C.toArray)).run Tryd.prog w2 = .ok () (w2.setCells q1 0 C) := by
    have := run_storeAt_mid (P := Tryd.prog) w2 q1 0 126 C.toArray (there_all hnew 0 _ (by simp [hZ, hCl])) (by rw [size_h74]; simp [hCl]) (by rw [hC]; exact hCells_one _ _ _ _)
    simpa using this
  have hI3 : HIn (w2.setCells q1 0 C) q1 shaIV (List.replicate 64 0) 0 0 := ⟨by rw [← hC]; exact store_all hnew (by rw [hZ, hCl]), by simp⟩
  have hq1w : w.heap.size < q1 := by rw [hq1, hw1]; simp
  have k3 : Keeps [] w (w2.setCells q1 0 C) := k2.setCells (.inr (by omega)) _ _
  have hres : (w2.setCells q1 0 C).heap[q]? = some (.cells X 52 (0, 0)) := by
    have e1 : w1.heap[q]? = some (.cells X 52 (0, 0)) := by rw [hw1]; exact heap_new_at hq
    have e2 : Keeps [q1] w1 (w2.setCells q1 0 C) := by rw [hw2]; exact ((Keeps.refl _ _).alloc _).setCells (.inl (by simp)) _ _
    exact (e2.block q (lt_of_heap e1) (by simp; omega)).trans e1
  obtain ⟨w3, hw3⟩ : ∃ x, x = w2.setCells q1 0 C := ⟨_, rfl⟩
  rw [← hw3] at hst hI3 k3 hres
  have hH : HashAt w3 q1 [] := ⟨_, hI3, rfl⟩
  have ht3 : Tabs w3 := ht.keeps k3 (by simp) (by simp)
  have hgl := ht.lt
  have hblk : ∀ k, (Value.slice a m.length c).elemBlock = some k → k ≠ q1 := fun k hk => by
    rcases hv with ⟨rfl, _, _, e, _⟩ | ⟨g, o, cap, e, _, _, hg, _⟩
    · simp [Value.elemBlock] at hk
    · rw [e] at hk
      have := elem_block_some hk
      omega
  have hwr := write_any hH (hv.keeps k3 (fun _ _ => by simp)) hblk ht3 (by omega) (by omega)
  rw [List.nil_append] at hwr
  have HWR := Lib.hid hwr
  have HROW1 := Lib.hid hrow1
  have HIVS := Lib.hid (show (Tryd.prog.info? 122).map (·.size) = some IV.length by rw [hIV]; kernel_rfl)
  have HBLD := Lib.hid hbld
  have HST := Lib.hid hst
  have HW1 := Lib.hid hw1
  have HW2 := Lib.hid hw2
  have HQ := Lib.hid hq
  have HQ1 := Lib.hid hq1
  have HK3 := Lib.hid k3
  have HRES := Lib.hid hres
  have HZI := Lib.hid hZi
  have HXI := Lib.hid hXi
  have HX := Lib.hid hX
  have HT3 := Lib.hid ht3
  have HGL := Lib.hid hgl
  clear hv hw1 k1 hrow1 hw2 hq hq1 k2 hnew hst hI3 k3 hres hZi hXi hX hZ ht hC hCl hw3 hH ht3 hgl hblk hwr hIV hbld
  go_enter Tryd.func38, Tryd.ntmps38
  go_upto_region 1 with (first | (refine wl_alloc rfl 52 rfl ?_; refine ⟨_, _, run_alloc _ HXI.out, ?_⟩; try simp only [Act.put, List.setIfInBounds_toArray, List.set_cons_zero, List.set_cons_succ, List.getElem_toArray, List.getElem_cons_zero, List.getElem_cons_succ]))
  try simp only [Value.cells]
  rw [← HW1.out, ← HQ.out]
  go_upto_region 2 with (first | (refine wpList_load_mid rfl 122 (.global 0) rfl 0 0 (by rfl) IV _ HROW1.out Tryd.underlying122 rfl HIVS.out ?_; try simp only [Act.put, List.setIfInBounds_toArray, List.set_cons_zero, List.set_cons_succ, List.getElem_toArray, List.getElem_cons_zero, List.getElem_cons_succ]) | (refine wl_build rfl 126 #[(0, .tmp 4)] #[(0, .agg IV.toArray)] rfl (by simp [Act.eval]) ?_; refine ⟨_, _, HBLD.out _, ?_⟩; try simp only [Act.put, List.setIfInBounds_toArray, List.set_cons_zero, List.set_cons_succ, List.getElem_toArray, List.getElem_cons_zero, List.getElem_cons_succ]) | (refine wl_alloc rfl 126 rfl ?_; refine ⟨_, _, run_alloc _ HZI.out, ?_⟩; (try simp only [Value.cells]); rw [← HW2.out, ← HQ1.out]; try simp only [Act.put, List.setIfInBounds_toArray, List.set_cons_zero, List.set_cons_succ, List.getElem_toArray, List.getElem_cons_zero, List.getElem_cons_succ]) | (refine wl_store rfl 126 (.tmp 3) (.tmp 5) rfl ?_; refine ⟨_, HST.out, ?_⟩; try simp only [Act.put, List.setIfInBounds_toArray, List.set_cons_zero, List.set_cons_succ, List.getElem_toArray, List.getElem_cons_zero, List.getElem_cons_succ]))
  go_upto_region 3 with (first | (go_at_call 54; refine HWR.out.mono ?_; rintro e w4 ⟨rfl, hH4, hk4⟩))
  have ht4 : Tabs w4 := HT3.out.keeps hk4 (by have := HGL.out; simp; omega) (by have := HGL.out; simp; omega)
  have hk04 : Keeps [] w w4 := HK3.out.trans (G := [q1]) hk4 (fun j hj => .inr (by simp at hj; subst hj; omega))
  have hqq : q < q1 := by rw [HQ.out]; exact hq1w
  have hres4 := (hk4.block q (lt_of_heap HRES.out) (by simp; omega)).trans HRES.out
  have hend := end_any hH4 ht4
  rw [← HD.out] at hend
  have HEND := Lib.hid hend
  have HRES4 := Lib.hid hres4
  have HK04 := Lib.hid hk04
  clear hH4 hk4 ht4 hk04 hres4 hend
  go_wp2_with (first | (go_at_call 55; refine HEND.out.mono ?_; rintro e w5 ⟨rfl, hk5⟩) | (refine wl_store rfl 52 (.tmp 2) (.tmp 8) rfl ?_; refine ⟨_, dg_run_store (by rw [← HX.out]; exact (hk5.block q (lt_of_heap HRES4.out) (by simp)).trans HRES4.out) HSHL.out, ?_⟩; try simp only [Act.put, List.setIfInBounds_toArray, List.set_cons_zero, List.set_cons_succ, List.getElem_toArray, List.getElem_cons_zero, List.getElem_cons_succ]))
  have hres5 : w5.heap[q]? = some (.cells (Array.replicate 32 (Value.int .u8 0)) 52 (0, 0)) := by
    rw [← HX.out]
    exact (hk5.block q (lt_of_heap HRES4.out) (by simp)).trans HRES4.out
  refine bodyPost_ret (results_row (cs := D.map B) rfl rfl (rangeAt_all (dg_store hres5 HSHL.out)) Tryd.underlying52 rfl HSD.out) rfl ⟨rfl, ?_⟩
  exact (HK04.out.trans (G := []) hk5 (by simp)).setCells (.inr (by rw [HQ.out]; exact Nat.le_refl _)) _ _
end Go.Proofs.YtojlojdkhegbkaaDoor

/-
  Package node: within.
-/
namespace Go.Proofs.YtojlojdkhegbkaaDoor
set_option linter.unusedVariables false
set_option linter.unusedSimpArgs false
open Go.RowKit

set_option maxRecDepth 100000 in
theorem within_any {w : World} (n low high : Int) :
    Calls Tryd.prog 37 #[.int .i64 n, .int .i64 low, .int .i64 high] w fun e w' => e = .returned (.int .i64 (max low (min n high))) ∧ w = w' := by
  go_enter Tryd.func37, Tryd.ntmps37
  go_wp2_with fail
  go_ret
  exact ⟨rfl, rfl⟩
end Go.Proofs.YtojlojdkhegbkaaDoor

/-
  Package node: BranchText.
-/
namespace Go.Proofs.YtojlojdkhegbkaaDoor
set_option linter.unusedVariables false
set_option linter.unusedSimpArgs false
open Go.RowKit

def branchL (k : Nat) (l r : List UInt8) : List UInt8 := 1 :: (l.take k ++ r.take k)
set_option maxRecDepth 100000 in
set_option maxHeartbeats 1600000 in
theorem branchText_any {w : World} {l r : List UInt8} (hl : l.length = 32) (hr : r.length = 32) (n : Int) (k : Nat) (hk : (k : Int) = max 0 (min n 32)) :
    Calls Tryd.prog 50 #[.int .i64 n, .agg (l.map B).toArray, .agg (r.map B).toArray] w fun e w' => ∃ rv, e = .returned rv ∧ BytesAt w' rv (branchL k l r) ∧ Keeps [] w w' := by
  have hk32 : k ≤ 32 := by omega
  obtain ⟨q, hq⟩ : ∃ q, q = w.heap.size := ⟨_, rfl⟩
  obtain ⟨w1, hw1⟩ : ∃ x, x = (w.alloc (.cells (l.map B).toArray 52 (0, 0))).alloc (.cells (r.map B).toArray 52 (0, 0)) := ⟨_, rfl⟩
  have k1 : Keeps [] w w1 := by rw [hw1]; exact ((Keeps.refl _ _).alloc _).alloc _
  have b0 : Blk w1 q 52 l := by rw [hw1]; exact (heap_old_at (by simp; omega)).trans (heap_new_at hq)
  have b1 : Blk w1 (q + 1) 52 r := by rw [hw1]; exact heap_new_at (by simp; omega)
  obtain ⟨m, hm⟩ : ∃ m, m = 1 + 2 * k := ⟨_, rfl⟩
  have em : 1 + 2 * (k : Int) = (m : Int) := by omega
  have hmk := make_room w1 m (by omega)
  obtain ⟨w2, hw2⟩ : ∃ x, x = w1.alloc (.cells ((List.replicate m (0 : UInt8)).map B).toArray 5 (0, 0)) := ⟨_, rfl⟩
  rw [← hw2] at hmk
  have k12 : Keeps [] w1 w2 := by rw [hw2]; exact (Keeps.refl _ _).alloc _
  have hq1 : q ≤ w1.heap.size := by rw [hq]; exact k1.size
  obtain ⟨w3, hw3⟩ : ∃ x, x = w2.alloc (.cells #[.int .u8 1] 5 (0, 0)) := ⟨_, rfl⟩
  have k23 : Keeps [] w2 w3 := by rw [hw3]; exact (Keeps.refl _ _).alloc _
  have h2 : w2.heap[w1.heap.size]? = some (.cells ((List.replicate m (0 : UInt8)).map B).toArray 5 (0, 0)) := by rw [hw2]; exact heap_new_at rfl
  have ho3 : w3.ownsRow w1.heap.size 5 1 (.slice (some ⟨w1.heap.size, 0, none⟩) 0 m) 0 [] := owns_room ((k23.block _ (lt_of_heap h2) (by simp)).trans h2) (by omega) (Nat.le_refl _)
  have hx3 : BytesAt w3 (.slice (some ⟨w2.heap.size, 0, none⟩) 1 1) [1] := .inr ⟨_, 0, 1, rfl, by simp, by simp [maxLen], by rw [hw3]; simp, rangeAt_all (t := 5) (fr := (0, 0)) (by rw [hw3]; exact heap_new_at rfl)⟩
  obtain ⟨v4, w4, hr4, ho4, hg4⟩ := run_append_bytes ho3 hx3 (by simp) (Nat.le_trans k12.size k23.size) 25
  have hk14 : Keeps [] w1 w4 := (k12.trans (G := []) k23 (by simp)).grown hg4 (fun k hk => .inr (World.ownsRow.lt ho3 k hk).1)
  have HAP := Lib.hid (run_builtin_append hr4)
  have HMK := Lib.hid hmk
  have hbs : (Instr.buildSlice 25 1 #[(0, .int .u8 1)]).run Tryd.prog w2 = .ok (.slice (some ⟨w2.heap.size, 0, none⟩) 1 1) w3 := by
    obtain ⟨i, hi, h1, h2, h3⟩ := info_parts info_u8
    rw [hw3]
    refine run_buildSlice w2 _ _ _ _ _ i (.int .u8 0) Tryd.underlying25 hi h1 (by rw [h2]; omega) (by rw [h2]; omega) ?_
    rw [h2]
    kernel_rfl
  have HBS := Lib.hid hbs
  have HW1 := Lib.hid hw1
  have HQ := Lib.hid hq
  have HK := Lib.hid hk
  have HO4 := Lib.hid ho4
  have HB0 := Lib.hid (b0.keeps hk14 (by simp))
  have HB1 := Lib.hid b1
  have HK14 := Lib.hid hk14
  have HK01 := Lib.hid k1
  have HLE := Lib.hid hk14.size
  have HK4 := Lib.hid (k1.trans (G := []) hk14 (by simp))
  have HQ1 := Lib.hid hq1
  have HSL := Lib.hid (fun wx g => run_dig_to wx g k hk32)
  clear hq hw1 k1 b0 b1 hm hmk hw2 k12 hq1 hw3 k23 h2 ho3 hx3 hr4 ho4 hg4 hk14 hbs hk
  go_enter Tryd.func50, Tryd.ntmps50
  go_upto_region 1 with fail
  rw [← HW1.out, ← HQ.out]
  go_upto_region 2 with (first | (go_at_call 37; refine (within_any _ _ _).mono ?_; rintro e w' ⟨rfl, rfl⟩; rw [← HK.out]))
  go_upto_region 3 with (first | (refine wl_makeSlice rfl 25 (.const (.int .i64 0)) (.tmp 13) rfl ?_; refine ⟨_, _, HMK.out, ?_⟩; try simp only [Act.put, List.setIfInBounds_toArray, List.set_cons_zero, List.set_cons_succ, List.getElem_toArray, List.getElem_cons_zero, List.getElem_cons_succ]) | (refine wl_buildSlice rfl 25 1 #[(0, .const (.int .u8 1))] #[(0, .int .u8 1)] rfl (by simp [Act.eval]) ?_; refine ⟨_, _, HBS.out, ?_⟩; try simp only [Act.put, List.setIfInBounds_toArray, List.set_cons_zero, List.set_cons_succ, List.getElem_toArray, List.getElem_cons_zero, List.getElem_cons_succ]) | (refine wl_builtin rfl .append #[.tmp 14, .tmp 15] #[25, 25] rfl ?_; simp only [List.map_toArray, List.map_cons, List.map_nil]; refine ⟨_, _, HAP.out, ?_⟩; try simp only [Act.put, List.setIfInBounds_toArray, List.set_cons_zero, List.set_cons_succ, List.getElem_toArray, List.getElem_cons_zero, List.getElem_cons_succ]))
  have hlt : (l.take k).length = k := by rw [List.length_take]; omega
  have hrt : (r.take k).length = k := by rw [List.length_take]; omega
  have hoD : w4.drew.ownsRow w1.heap.size 5 1 v4 (0 + ([1] : List UInt8).length) ([] ++ ([1] : List UInt8).map B) := ownsRow_keep HO4.out (fun _ _ => rfl)
  have hxl : BytesAt w4.drew (.slice (some ⟨q, 0, none⟩) k 32) (l.take k) := by
    have := Blk.part (w := w4.drew) (g := q) (t := 52) (l := l) HB0.out 0 k 32 (by omega) hk32 (by simp [maxLen])
    simpa using this
  have hbase : w1.heap.size ≤ w4.drew.heap.size := HLE.out
  refine wp_region_held_drew (S := (fun _ => True)) (by kernel_rfl) ?_ (fun hHeld => ?_)
  · trivial
  refine' wpAnyH_take (i := 0) (v := _) rfl (by kernel_rfl) (by kernel_rfl) (by kernel_rfl) (fun _ _ _ h => h) (Or.inl ⟨by rfl, ?_⟩) (by assumption) ?_
  rotate_left 1
  · (intro w0 hSw; (try dsimp only at hSw); go_split_ands; go_simp; (try with_reducible rfl))
  try simp only [Act.put, List.setIfInBounds_toArray, List.set_cons_zero, List.set_cons_succ, List.getElem_toArray, List.getElem_cons_zero, List.getElem_cons_succ]
  refine' wpAnyH_take (i := 1) (v := _) rfl (by kernel_rfl) (by kernel_rfl) (by kernel_rfl) (fun _ _ _ h => h) (Or.inl ⟨by rfl, ?_⟩) (by assumption) ?_
  rotate_left 1
  · (intro w0 hSw; (try dsimp only at hSw); go_split_ands; go_simp; (try with_reducible rfl))
  try simp only [Act.put, List.setIfInBounds_toArray, List.set_cons_zero, List.set_cons_succ, List.getElem_toArray, List.getElem_cons_zero, List.getElem_cons_succ]
  refine' wpAnyH_take (i := 2) (v := _) rfl (by kernel_rfl) (by kernel_rfl) (by kernel_rfl) (fun _ _ _ h => h) (Or.inl ⟨by rfl, ?_⟩) (by assumption) ?_
  rotate_left 1
  · intro w0 hSw
    go_simp
    rw [HSL.out w0]
    rfl
  try simp only [Act.put, List.setIfInBounds_toArray, List.set_cons_zero, List.set_cons_succ, List.getElem_toArray, List.getElem_cons_zero, List.getElem_cons_succ]
  refine' wpAnyH_take (i := 4) (v := _) rfl (by kernel_rfl) (by kernel_rfl) (by kernel_rfl) (fun _ _ _ h => h) (Or.inl ⟨by rfl, ?_⟩) (by assumption) ?_
  rotate_left 1
  · (intro w0 hSw; (try dsimp only at hSw); go_split_ands; go_simp; (try with_reducible rfl))
  try simp only [Act.put, List.setIfInBounds_toArray, List.set_cons_zero, List.set_cons_succ, List.getElem_toArray, List.getElem_cons_zero, List.getElem_cons_succ]
  refine' wpAnyH_take (i := 5) (v := _) rfl (by kernel_rfl) (by kernel_rfl) (by kernel_rfl) (fun _ _ _ h => h) (Or.inl ⟨by rfl, ?_⟩) (by assumption) ?_
  rotate_left 1
  · intro w0 hSw
    go_simp
    rw [HSL.out w0]
    rfl
  try simp only [Act.put, List.setIfInBounds_toArray, List.set_cons_zero, List.set_cons_succ, List.getElem_toArray, List.getElem_cons_zero, List.getElem_cons_succ]
  refine wpAnyH_ready (rs := [3]) (by kernel_rfl) (by simp) ?_
  refine AllReadyH.cons rfl (fun K hK => ?_) AllReadyH.nil
  refine step_append_bytes rfl (.tmp 17) (.tmp 19) rfl w1.heap.size v4 _ _ (by rfl) hoD _ (l.take k) (by rfl) hxl (by simp; omega) hbase ?_
  intro v5 w5 ho5 hg5
  have hk45 : Keeps [] w1 w5 := HK14.out.drew.grown hg5 (fun k hk => .inr (World.ownsRow.lt hoD k hk).1)
  have hxr : BytesAt w5 (.slice (some ⟨q + 1, 0, none⟩) k 32) (r.take k) := by
    have hB : Blk w5 (q + 1) 52 r := HB1.out.keeps hk45 (by simp)
    have := Blk.part (w := w5) (g := q + 1) (t := 52) (l := r) hB 0 k 32 (by omega) hk32 (by simp [maxLen])
    simpa using this
  refine hK.out _ _ ?_ (fun hHeld => ?_)
  · trivial
  clear hK K
  try simp only [Act.put, List.setIfInBounds_toArray, List.set_cons_zero, List.set_cons_succ, List.getElem_toArray, List.getElem_cons_zero, List.getElem_cons_succ]
  refine wpAnyH_ready (rs := [6]) (by kernel_rfl) (by simp) ?_
  refine AllReadyH.cons rfl (fun K hK => ?_) AllReadyH.nil
  refine step_append_bytes rfl (.tmp 20) (.tmp 22) rfl w1.heap.size v5 _ _ (by rfl) ho5 _ (r.take k) (by rfl) hxr (by simp; omega) hk45.size ?_
  intro v6 w6 ho6 hg6
  have hk46 : Keeps [] w1 w6 := hk45.grown hg6 (fun k hk => .inr (World.ownsRow.lt ho5 k hk).1)
  refine hK.out _ _ ?_ (fun hHeld => ?_)
  · trivial
  clear hK K
  try simp only [Act.put, List.setIfInBounds_toArray, List.set_cons_zero, List.set_cons_succ, List.getElem_toArray, List.getElem_cons_zero, List.getElem_cons_succ]
  refine' wpAnyH_take (i := 7) (v := _) rfl (by kernel_rfl) (by kernel_rfl) (by kernel_rfl) (fun _ _ _ h => h) (Or.inl ⟨by rfl, ?_⟩) (by assumption) ?_
  rotate_left 1
  · (intro w0 hSw; (try dsimp only at hSw); go_split_ands; go_simp; (try with_reducible rfl))
  try simp only [Act.put, List.setIfInBounds_toArray, List.set_cons_zero, List.set_cons_succ, List.getElem_toArray, List.getElem_cons_zero, List.getElem_cons_succ]
  refine wpAnyH_done (by kernel_rfl) ?_ _
  clear hHeld
  go_wp2_with fail
  go_ret
  have hO : OwnB w6 v6 (branchL k l r) := by
    have h := ownsRow_base ho6
    have e1 : 0 + ([1] : List UInt8).length + (l.take k).length + (r.take k).length = (branchL k l r).length := by simp [branchL]; omega
    have e2 : [] ++ ([1] : List UInt8).map B ++ (l.take k).map B ++ (r.take k).map B = (branchL k l r).map B := by simp [branchL]
    rw [e1, e2] at h
    exact h
  exact ⟨v6, rfl, ownB_bytes hO, HK01.out.trans (G := []) hk46 (by simp)⟩
end Go.Proofs.YtojlojdkhegbkaaDoor

/-
  Package node: Branch.
-/
namespace Go.Proofs.YtojlojdkhegbkaaDoor
set_option linter.unusedVariables false
set_option linter.unusedSimpArgs false
open Go.RowKit

def branchD (k : Nat) (l r : List UInt8) : List UInt8 := cutL (shaL (branchL k l r)) k
set_option maxRecDepth 100000 in
set_option maxHeartbeats 1600000 in
theorem branch_any {w : World} {l r : List UInt8} (hl : l.length = 32) (hr : r.length = 32) (n : Int) (n0 : -9223372036854775808 ≤ n) (n1 : n ≤ 9223372036854775807) (k : Nat) (hk : (k : Int) = max 0 (min n 32)) (ht : Tabs w) :
    Calls Tryd.prog 31 #[.int .i64 n, .agg (l.map B).toArray, .agg (r.map B).toArray] w fun e w' => e = .returned (.agg ((branchD k l r).map B).toArray) ∧ Keeps [] w w' := by
  obtain ⟨D, hD⟩ : ∃ D, D = branchD k l r := ⟨_, rfl⟩
  have hDl : D.length = 32 := by rw [hD]; exact cutL_length (shaL_length _) (by omega)
  rw [← hD]
  obtain ⟨q, hq⟩ : ∃ q, q = w.heap.size := ⟨_, rfl⟩
  obtain ⟨X, hX, hXi⟩ : ∃ X : Array Value, X = Array.replicate 32 (.int .u8 0) ∧ (Tryd.prog.info? 52).map (fun i => (i.zero, i.size, i.bytes)) = some (some (.agg X), 32, 32) := ⟨_, rfl, info_digest⟩
  obtain ⟨w1, hw1⟩ : ∃ x, x = ((w.alloc (.cells (l.map B).toArray 52 (0, 0))).alloc (.cells (r.map B).toArray 52 (0, 0))).alloc (.cells X 52 (0, 0)) := ⟨_, rfl⟩
  have k1 : Keeps [] w w1 := by rw [hw1]; exact (((Keeps.refl _ _).alloc _).alloc _).alloc _
  have b0 : Blk w1 q 52 l := by rw [hw1]; exact (heap_old_at (by simp; omega)).trans ((heap_old_at (by simp; omega)).trans (heap_new_at hq))
  have b1 : Blk w1 (q + 1) 52 r := by rw [hw1]; exact (heap_old_at (by simp; omega)).trans (heap_new_at (by simp; omega))
  have b2 : w1.heap[w.heap.size + 1 + 1]? = some (.cells (Array.replicate 32 (Value.int .u8 0)) 52 (0, 0)) := by rw [hw1, ← hX]; exact heap_new_at (by simp)
  have HTX := Lib.hid (branchText_any (w := w1) hl hr n k hk)
  have HT1 := Lib.hid (ht.keeps k1 (by simp) (by simp))
  have HCUT := Lib.hid (fun (wx : World) => cut_any (w := wx) (shaL_length (branchL k l r)) n n0 n1 k (by omega))
  have HSL := Lib.hid (show (Tryd.prog.info? 52).map (·.size) = some (l.map B).length by rw [List.length_map, hl]; exact dg_size)
  have HSR := Lib.hid (show (Tryd.prog.info? 52).map (·.size) = some (r.map B).length by rw [List.length_map, hr]; exact dg_size)
  have HSD := Lib.hid (show (Tryd.prog.info? 52).map (·.size) = some (D.map B).length by rw [List.length_map, hDl]; exact dg_size)
  have HD := Lib.hid (show D = cutL (shaL (branchL k l r)) k from hD)
  have HDL := Lib.hid hDl
  have HW1 := Lib.hid hw1
  have HQ := Lib.hid hq
  have HXI := Lib.hid hXi
  have HB0 := Lib.hid b0
  have HB1 := Lib.hid b1
  have HB2 := Lib.hid b2
  have HK1 := Lib.hid k1
  clear hD hDl hq hX hXi hw1 k1 b0 b1 b2 hl hr hk ht
  go_enter Tryd.func31, Tryd.ntmps31
  go_upto_region 1 with (first | (refine wl_alloc rfl 52 rfl ?_; refine ⟨_, _, run_alloc _ HXI.out, ?_⟩; try simp only [Act.put, List.setIfInBounds_toArray, List.set_cons_zero, List.set_cons_succ, List.getElem_toArray, List.getElem_cons_zero, List.getElem_cons_succ]))
  try simp only [Value.cells]
  rw [← HW1.out, ← HQ.out]
  go_wp2_with (first
    | (refine wpList_load_mid rfl 52 (.tmp 4) rfl q 0 (by rfl) (l.map B) _ (rangeAt_all HB0.out) Tryd.underlying52 rfl HSL.out ?_; try simp only [Act.put, List.setIfInBounds_toArray, List.set_cons_zero, List.set_cons_succ, List.getElem_toArray, List.getElem_cons_zero, List.getElem_cons_succ])
    | (refine wpList_load_mid rfl 52 (.tmp 5) rfl (q + 1) 0 (by rfl) (r.map B) _ (rangeAt_all HB1.out) Tryd.underlying52 rfl HSR.out ?_; try simp only [Act.put, List.setIfInBounds_toArray, List.set_cons_zero, List.set_cons_succ, List.getElem_toArray, List.getElem_cons_zero, List.getElem_cons_succ])
    | (go_at_call 50; refine HTX.out.mono ?_; rintro e w2 ⟨rv, rfl, hrv, hk2⟩)
    | (go_at_call 38; refine (shaSum_any hrv (HT1.out.keeps hk2 (by simp) (by simp))).mono ?_; rintro e w3 ⟨rfl, hk3⟩)
    | (go_at_call 36; refine (HCUT.out w3).mono ?_; rintro e w4 ⟨rfl, hk4⟩; rw [← HD.out])
    | (refine wl_store rfl 52 (.tmp 6) (.tmp 13) rfl ?_; refine ⟨_, dg_run_store ((((hk2.trans (G := []) hk3 (by simp)).trans (G := []) hk4 (by simp)).block _ (lt_of_heap HB2.out) (by simp)).trans HB2.out) HDL.out, ?_⟩; try simp only [Act.put, List.setIfInBounds_toArray, List.set_cons_zero, List.set_cons_succ, List.getElem_toArray, List.getElem_cons_zero, List.getElem_cons_succ]))
  have hb4 := (((hk2.trans (G := []) hk3 (by simp)).trans (G := []) hk4 (by simp)).block _ (lt_of_heap HB2.out) (by simp)).trans HB2.out
  refine bodyPost_ret (results_row (cs := D.map B) rfl rfl (rangeAt_all (dg_store hb4 HDL.out)) Tryd.underlying52 rfl HSD.out) rfl ⟨rfl, ?_⟩
  exact (HK1.out.trans (G := []) ((hk2.trans (G := []) hk3 (by simp)).trans (G := []) hk4 (by simp)) (by simp)).setCells (.inr (by omega)) _ _
end Go.Proofs.YtojlojdkhegbkaaDoor

/-
  Package node: Empty.
-/
namespace Go.Proofs.YtojlojdkhegbkaaDoor
set_option linter.unusedVariables false
set_option linter.unusedSimpArgs false
open Go.RowKit

def emptyD (k : Nat) : Nat → List UInt8
  | 0 => cutL (shaL [2]) k
  | h + 1 => branchD k (emptyD k h) (emptyD k h)
theorem emptyD_length {k : Nat} (hk : k ≤ 32) : ∀ h, (emptyD k h).length = 32
  | 0 => cutL_length (shaL_length _) hk
  | h + 1 => cutL_length (shaL_length _) hk
theorem dg_run_store2 {w : World} {q : Nat} {x y : List UInt8} (h : Blk w q 52 y) (hy : y.length = 32) (hl : x.length = 32) :
    (Instr.storeAt 52 (.pointer (some ⟨q, 0, none⟩)) (.agg (x.map B).toArray)).run Tryd.prog w = .ok () (w.setCells q 0 (x.map B)) := by
  have := run_storeAt_mid (P := Tryd.prog) w q 0 52 (x.map B).toArray (there_all (show w.heap[q]? = some (.cells (y.map B).toArray 52 (0, 0)) from h) 0 _ (by simp [hl, hy])) (by rw [dg_size]; simp [hl]) (all_oneCell_toArray (B_one x))
  simpa using this
theorem dg_store2 {w : World} {q : Nat} {x y : List UInt8} (h : Blk w q 52 y) (hy : y.length = 32) (hl : x.length = 32) : Blk (w.setCells q 0 (x.map B)) q 52 x :=
  store_all (show w.heap[q]? = some (.cells (y.map B).toArray 52 (0, 0)) from h) (by simp [hl, hy])
theorem dg_size_of {x : List UInt8} (h : x.length = 32) : (Tryd.prog.info? 52).map (·.size) = some (x.map B).length := by rw [List.length_map, h]; exact dg_size
set_option maxRecDepth 100000 in
set_option maxHeartbeats 1600000 in
theorem emptyD_any {w : World} (n : Int) (n0 : -9223372036854775808 ≤ n) (n1 : n ≤ 9223372036854775807) (k : Nat) (hk : (k : Int) = max 0 (min n 32)) (ht : Tabs w) (h : Nat) (hh : h ≤ 256) :
    Calls Tryd.prog 30 #[.int .i64 n, .int .i64 h] w fun e w' => e = .returned (.agg ((emptyD k h).map B).toArray) ∧ Keeps [] w w' := by
  obtain ⟨E0, hE0⟩ : ∃ E, E = emptyD k h := ⟨_, rfl⟩
  rw [← hE0]
  have HE0 := Lib.hid hE0
  clear hE0
  obtain ⟨X, hX, hXi⟩ : ∃ X : Array Value, X = Array.replicate 32 (.int .u8 0) ∧ (Tryd.prog.info? 52).map (fun i => (i.zero, i.size, i.bytes)) = some (some (.agg X), 32, 32) := ⟨_, rfl, info_digest⟩
  obtain ⟨q, hq⟩ : ∃ q, q = w.heap.size := ⟨_, rfl⟩
  obtain ⟨w1, hw1⟩ : ∃ x, x = w.alloc (.cells X 52 (0, 0)) := ⟨_, rfl⟩
  have k1 : Keeps [] w w1 := by rw [hw1]; exact (Keeps.refl _ _).alloc _
  have b1 : w1.heap[q]? = some (.cells X 52 (0, 0)) := by rw [hw1]; exact heap_new_at hq
  obtain ⟨w2, hw2⟩ : ∃ x, x = w1.alloc (.cells #[.int .u8 2] 5 (0, 0)) := ⟨_, rfl⟩
  have k2 : Keeps [] w1 w2 := by rw [hw2]; exact (Keeps.refl _ _).alloc _
  have hx2 : BytesAt w2 (.slice (some ⟨w1.heap.size, 0, none⟩) 1 1) [2] := .inr ⟨_, 0, 1, rfl, by simp, by simp [maxLen], by rw [hw2]; simp, rangeAt_all (t := 5) (fr := (0, 0)) (by rw [hw2]; exact heap_new_at rfl)⟩
  have hbs : (Instr.buildSlice 25 1 #[(0, .int .u8 2)]).run Tryd.prog w1 = .ok (.slice (some ⟨w1.heap.size, 0, none⟩) 1 1) w2 := by
    obtain ⟨i, hi, h1, h2, h3⟩ := info_parts info_u8
    rw [hw2]
    refine run_buildSlice w1 _ _ _ _ _ i (.int .u8 0) Tryd.underlying25 hi h1 (by rw [h2]; omega) (by rw [h2]; omega) ?_
    rw [h2]
    kernel_rfl
  have HK2 := Lib.hid (k1.trans (G := []) k2 (by simp))
  have HK12 := Lib.hid k2
  have HB1 := Lib.hid b1
  have HT := Lib.hid ht
  have HK := Lib.hid hk
  have hk32 : k ≤ 32 := by omega
  have HSUM := Lib.hid (shaSum_any hx2 ((ht.keeps k1 (by simp) (by simp)).keeps k2 (by simp) (by simp)))
  have HCUT := Lib.hid (fun (wx : World) => cut_any (w := wx) (shaL_length [2]) n n0 n1 k (by omega))
  have HBS := Lib.hid hbs
  have HW1 := Lib.hid hw1
  have HQ := Lib.hid hq
  have HX := Lib.hid hX
  have HXI := Lib.hid hXi
  clear hbs hw1 hq hX hXi hw2 hx2 k1 k2 b1 ht hk
  go_enter Tryd.func30, Tryd.ntmps30
  go_upto_region 1 with (first | (refine wl_alloc rfl 52 rfl ?_; refine ⟨_, _, run_alloc _ HXI.out, ?_⟩; try simp only [Act.put, List.setIfInBounds_toArray, List.set_cons_zero, List.set_cons_succ, List.getElem_toArray, List.getElem_cons_zero, List.getElem_cons_succ]))
  try simp only [Value.cells]
  rw [← HW1.out, ← HQ.out]
  go_upto_region 2 with (first | (refine wl_buildSlice rfl 25 1 #[(0, .const (.int .u8 2))] #[(0, .int .u8 2)] rfl (by simp [Act.eval]) ?_; refine ⟨_, _, HBS.out, ?_⟩; try simp only [Act.put, List.setIfInBounds_toArray, List.set_cons_zero, List.set_cons_succ, List.getElem_toArray, List.getElem_cons_zero, List.getElem_cons_succ]) | (go_at_call 38; refine HSUM.out.mono ?_; rintro e w3 ⟨rfl, hk3⟩) | (go_at_call 36; refine (HCUT.out w3).mono ?_; rintro e w4 ⟨rfl, hk4⟩) | (refine wl_alloc rfl 52 rfl ?_; refine ⟨_, _, run_alloc _ HXI.out, ?_⟩; (try simp only [Value.cells]); try simp only [Act.put, List.setIfInBounds_toArray, List.set_cons_zero, List.set_cons_succ, List.getElem_toArray, List.getElem_cons_zero, List.getElem_cons_succ]) | (refine wl_store rfl 52 (.tmp 5) (.tmp 9) rfl ?_; refine ⟨_, dg_run_store (heap_new_at rfl |>.trans (by rw [HX.out])) (cutL_length (shaL_length _) hk32), ?_⟩; try simp only [Act.put, List.setIfInBounds_toArray, List.set_cons_zero, List.set_cons_succ, List.getElem_toArray, List.getElem_cons_zero, List.getElem_cons_succ]))
  have k4 : Keeps [] w w4 := HK2.out.trans (G := []) (hk3.trans (G := []) hk4 (by simp)) (by simp)
  obtain ⟨q5, hq5⟩ : ∃ x, x = w4.heap.size := ⟨_, rfl⟩
  obtain ⟨w5, hw5⟩ : ∃ x, x = (w4.alloc (.cells X 52 (0, 0))).setCells q5 0 ((cutL (shaL [2]) k).map B) := ⟨_, rfl⟩
  have b5 : Blk w5 q5 52 (emptyD k 0) := by
    rw [hw5]
    exact dg_store ((heap_new_at hq5).trans (by rw [HX.out])) (cutL_length (shaL_length _) hk32)
  have k5 : Keeps [] w w5 := by rw [hw5]; exact (k4.alloc _).setCells (.inr (by rw [hq5]; exact k4.size)) _ _
  have hqq : q < q5 := by
    rw [hq5]
    have := (k4.size)
    have h1 := (HK12.out.trans (G := []) (hk3.trans (G := []) hk4 (by simp)) (by simp)).size
    have h2 := lt_of_heap HB1.out
    omega
  have r5 : w5.heap[q]? = some (.cells (Array.replicate 32 (Value.int .u8 0)) 52 (0, 0)) := by
    rw [← HX.out, hw5]
    have e4 := ((HK12.out.trans (G := []) (hk3.trans (G := []) hk4 (by simp)) (by simp)).block q (lt_of_heap HB1.out) (by simp)).trans HB1.out
    have h4 : Keeps [q5] w4 ((w4.alloc (.cells X 52 (0, 0))).setCells q5 0 ((cutL (shaL [2]) k).map B)) := ((Keeps.refl _ _).alloc _).setCells (.inl (by simp)) _ _
    exact (h4.block q (lt_of_heap e4) (by simp; omega)).trans e4
  have HR5 := Lib.hid r5
  have HK5 := Lib.hid k5
  have HB5 := Lib.hid b5
  have HQQ := Lib.hid hqq
  rw [← hq5]
  rw [← hw5]
  have hgl := HT.out.lt
  have HT5 := Lib.hid (HT.out.keeps k5 (by simp) (by simp))
  have HGL := Lib.hid (show 1 ≠ q5 ∧ 0 ≠ q5 by have := k4.size; omega)
  have HQW := Lib.hid (show w.heap.size ≤ q5 by rw [hq5]; exact k4.size)
  clear k4 hq5 hw5 b5 k5 hqq r5 hk3 hk4 hgl HSUM HCUT HBS HB1 HK12 HK2
  go_wp2_with (first | (go_at_call 37; refine (within_any _ _ _).mono ?_; rintro e w' ⟨rfl, rfl⟩; rw [show max 0 (min (h : Int) 256) = (h : Int) by omega]))
  go_loopw [12] (fun iv wr => ∃ j : Nat, j ≤ h ∧ iv = .int .i64 j ∧ Blk wr q5 52 (emptyD k j) ∧ Keeps [q5] w5 wr) (fun iv _ => h - (intOf iv).toNat)
  case atStart => exact ⟨0, by omega, rfl, HB5.out, Keeps.refl _ _⟩
  case round =>
    obtain ⟨j, hj, rfl, hb, hkr⟩ := hrel
    have hl32 : (emptyD k j).length = 32 := emptyD_length (by omega) j
    by_cases hlt : j < h
    · have HBR := Lib.hid (branch_any (w := wr) hl32 hl32 n n0 n1 k HK.out (HT5.out.keeps hkr (by simp; exact HGL.out.1) (by simp; exact HGL.out.2)))
      have hl33 : (emptyD k (j + 1)).length = 32 := emptyD_length (by omega) (j + 1)
      have HBE := Lib.hid hb
      have HSD := Lib.hid (dg_size_of hl32)
      have HKR := Lib.hid hkr
      have HL := Lib.hid (And.intro hl32 hl33)
      obtain ⟨E, hE⟩ : ∃ E, E = emptyD k j := ⟨_, rfl⟩
      obtain ⟨E1, hE1⟩ : ∃ E1, E1 = branchD k (emptyD k j) (emptyD k j) := ⟨_, rfl⟩
      rw [← hE1, ← hE] at HBR
      rw [← hE] at HBE HSD
      have HE := Lib.hid (And.intro hE hE1)
      clear hb hkr hl32 hl33 hE hE1
      go_wp2_with (first | (refine wpList_load_mid rfl 52 (.tmp 5) rfl q5 0 (by rfl) (E.map B) _ (rangeAt_all HBE.out) Tryd.underlying52 rfl HSD.out ?_; try simp only [Act.put, List.setIfInBounds_toArray, List.set_cons_zero, List.set_cons_succ, List.getElem_toArray, List.getElem_cons_zero, List.getElem_cons_succ]) | (go_at_call 31; refine HBR.out.mono ?_; rintro e w6 ⟨rfl, hk6⟩) | (refine wl_store rfl 52 (.tmp 5) (.tmp 17) rfl ?_; refine ⟨_, dg_run_store2 (HBE.out.keeps hk6 (by simp)) (by rw [HE.out.1]; exact HL.out.1) (by rw [HE.out.2]; exact HL.out.2), ?_⟩; try simp only [Act.put, List.setIfInBounds_toArray, List.set_cons_zero, List.set_cons_succ, List.getElem_toArray, List.getElem_cons_zero, List.getElem_cons_succ]))
      go_roundw
      case rel =>
        refine ⟨j + 1, by omega, by go_num, ?_, (HKR.out.trans (G := []) hk6 (by simp)).setCells (.inl (by simp)) _ _⟩
        have := dg_store2 (x := E1) (HBE.out.keeps hk6 (by simp)) (by rw [HE.out.1]; exact HL.out.1) (by rw [HE.out.2]; exact HL.out.2)
        rw [show emptyD k (j + 1) = E1 from HE.out.2.symm]
        exact this
      case measure => simp [intOf]; omega
    · have e : j = h := by omega
      subst e
      have hr := ((hkr.block q (lt_of_heap HR5.out) (by simp; have := HQQ.out; omega)).trans HR5.out)
      rw [← HE0.out] at hl32 hb
      have HBE := Lib.hid hb
      have HSD := Lib.hid (dg_size_of hl32)
      have HRR := Lib.hid hr
      have HL := Lib.hid hl32
      have HKK := Lib.hid (HK5.out.trans (G := [q5]) hkr (fun k hk => .inr (by simp at hk; subst hk; exact HQW.out)))
      clear hb hr hl32 hkr
      go_wp2_with (first | (refine wpList_load_mid rfl 52 (.tmp 5) rfl q5 0 (by rfl) (E0.map B) _ (rangeAt_all HBE.out) Tryd.underlying52 rfl HSD.out ?_; try simp only [Act.put, List.setIfInBounds_toArray, List.set_cons_zero, List.set_cons_succ, List.getElem_toArray, List.getElem_cons_zero, List.getElem_cons_succ]) | (refine wl_store rfl 52 (.tmp 4) (.tmp 19) rfl ?_; refine ⟨_, dg_run_store HRR.out HL.out, ?_⟩; try simp only [Act.put, List.setIfInBounds_toArray, List.set_cons_zero, List.set_cons_succ, List.getElem_toArray, List.getElem_cons_zero, List.getElem_cons_succ]))
      refine bodyPost_ret (results_row (cs := E0.map B) rfl rfl (rangeAt_all (dg_store HRR.out HL.out)) Tryd.underlying52 rfl HSD.out) rfl ⟨rfl, ?_⟩
      exact HKK.out.setCells (.inr (by rw [HQ.out]; exact Nat.le_refl _)) _ _
end Go.Proofs.YtojlojdkhegbkaaDoor

/-
  Package node: a node as a value; Decode of a kind that is no node's.
-/
namespace Go.Proofs.YtojlojdkhegbkaaDoor
set_option linter.unusedVariables false
set_option linter.unusedSimpArgs false
open Go.RowKit

/-- A node. -/
structure Nde where
  kind : Int
  left : Int
  right : Int
  lc : Int
  rc : Int
  ls : List UInt8
  rs : List UInt8
  key : List UInt8
  val : List UInt8
def Nde.ok (n : Nde) : Prop := n.ls.length = 32 ∧ n.rs.length = 32 ∧ n.key.length = 32
def z32 : List UInt8 := List.replicate 32 0
/-- A node's cells; of its value what lies in the variable. -/
def nodeC (n : Nde) (vv : Value) : List Value := .int .i64 n.kind :: .int .i64 n.left :: .int .i64 n.right :: .int .i64 n.lc :: .int .i64 n.rc :: (n.ls.map B ++ n.rs.map B ++ n.key.map B ++ [vv])
def nd0 : Nde := ⟨0, 0, 0, 0, 0, z32, z32, z32, []⟩
theorem nd0_ok : nd0.ok := ⟨rfl, rfl, rfl⟩
theorem nodeC_length {n : Nde} (h : n.ok) (vv : Value) : (nodeC n vv).length = 102 := by simp [nodeC, h.1, h.2.1, h.2.2]
theorem size_node : (Tryd.prog.info? 54).map (·.size) = some 102 := by kernel_rfl
theorem size_node_of {n : Nde} (h : n.ok) (vv : Value) : (Tryd.prog.info? 54).map (·.size) = some (nodeC n vv).length := by rw [nodeC_length h]; exact size_node
set_option maxRecDepth 100000 in
theorem info_node : (Tryd.prog.info? 54).map (fun i => (i.zero, i.size, i.bytes)) = some (some (.agg (nodeC nd0 (.slice none 0 0)).toArray), 102, 160) := by kernel_rfl
theorem nodeC_ones {n : Nde} {a : Option Addr} {m c : Nat} : ∀ v ∈ nodeC n (.slice a m c), v.oneCell' = true := by
  intro v hv
  simp only [nodeC, List.mem_cons, List.mem_append, List.mem_singleton, List.not_mem_nil, or_false] at hv
  rcases hv with rfl | rfl | rfl | rfl | rfl | ((hv | hv) | hv) | rfl
  · rfl
  · rfl
  · rfl
  · rfl
  · rfl
  · exact B_one _ v hv
  · exact B_one _ v hv
  · exact B_one _ v hv
  · rfl
theorem run_store_node {w : World} {q : Nat} {z cs : List Value} (h : w.heap[q]? = some (.cells z.toArray 54 (0, 0))) (hz : z.length = 102) (hc : cs.length = 102) (h1 : ∀ v ∈ cs, v.oneCell' = true) :
    (Instr.storeAt 54 (.pointer (some ⟨q, 0, none⟩)) (.agg cs.toArray)).run Tryd.prog w = .ok () (w.setCells q 0 cs) := by
  have := run_storeAt_mid (P := Tryd.prog) w q 0 54 cs.toArray (there_all h 0 _ (by simp [hz, hc])) (by rw [size_node]; simp [hc]) (all_oneCell_toArray h1)
  simpa using this
set_option maxRecDepth 100000 in
theorem run_build_node0 (w : World) : (Instr.build 54 #[]).run Tryd.prog w = .ok (.agg (nodeC nd0 (.slice none 0 0)).toArray) w := by kernel_rfl
set_option maxRecDepth 100000 in
theorem read_3 {w : World} (v : Value) : Calls Tryd.prog 67 #[.int .i64 3, v] w fun e w' => e = .returned .nilIface ∧ w = w' := by
  go_enter Tryd.func67, Tryd.ntmps67
  go_wp2_with fail
  go_ret
  exact ⟨rfl, rfl⟩
set_option maxRecDepth 100000 in
set_option maxHeartbeats 1600000 in
theorem decode_3 {w : World} (v : Value) : Calls Tryd.prog 52 #[.int .i64 3, v] w fun e w' => e = .returned (.tuple #[.agg (nodeC nd0 (.slice none 0 0)).toArray, .int .i64 90]) ∧ Keeps [] w w' := by
  obtain ⟨Z, hZ, hZi, hZ1, hZb⟩ : ∃ Z : List Value, Z.length = 102 ∧ (Tryd.prog.info? 54).map (fun i => (i.zero, i.size, i.bytes)) = some (some (.agg Z.toArray), 102, 160) ∧ (∀ v ∈ Z, v.oneCell' = true) ∧ Z = nodeC nd0 (.slice none 0 0) := ⟨_, nodeC_length nd0_ok _, info_node, nodeC_ones, rfl⟩
  have hbld : ∀ w, (Instr.build 54 #[]).run Tryd.prog w = .ok (.agg Z.toArray) w := fun w => by rw [hZb]; exact run_build_node0 w
  rw [← hZb]
  obtain ⟨q, hq⟩ : ∃ q, q = w.heap.size := ⟨_, rfl⟩
  obtain ⟨w1, hw1⟩ : ∃ x, x = w.alloc (.cells Z.toArray 54 (0, 0)) := ⟨_, rfl⟩
  have k1 : Keeps [] w w1 := by rw [hw1]; exact (Keeps.refl _ _).alloc _
  have b1 : w1.heap[q]? = some (.cells Z.toArray 54 (0, 0)) := by rw [hw1]; exact heap_new_at hq
  have HST := Lib.hid (run_store_node b1 hZ hZ hZ1)
  have HBL := Lib.hid hbld
  have HZI := Lib.hid hZi
  have HW1 := Lib.hid hw1
  have HQ := Lib.hid hq
  have HK1 := Lib.hid k1
  have HB1 := Lib.hid b1
  have HZ := Lib.hid hZ
  have HSZ := Lib.hid (show (Tryd.prog.info? 54).map (·.size) = some Z.length by rw [hZ]; exact size_node)
  clear hbld hZi hw1 hq k1 b1 hZ hZ1 hZb
  go_enter Tryd.func52, Tryd.ntmps52
  go_upto_region 1 with (first | (refine wl_alloc rfl 54 rfl ?_; refine ⟨_, _, run_alloc _ HZI.out, ?_⟩; try simp only [Act.put, List.setIfInBounds_toArray, List.set_cons_zero, List.set_cons_succ, List.getElem_toArray, List.getElem_cons_zero, List.getElem_cons_succ]))
  try simp only [Value.cells]
  rw [← HW1.out, ← HQ.out]
  go_wp2_with (first | (go_at_call 67; refine (read_3 _).mono ?_; rintro e w2 ⟨rfl, rfl⟩) | (refine wl_build rfl 54 #[] #[] rfl (by simp [Act.eval]) ?_; refine ⟨_, _, HBL.out _, ?_⟩; try simp only [Act.put, List.setIfInBounds_toArray, List.set_cons_zero, List.set_cons_succ, List.getElem_toArray, List.getElem_cons_zero, List.getElem_cons_succ]) | (refine wl_store rfl 54 (.tmp 4) (.tmp 17) rfl ?_; refine ⟨_, HST.out, ?_⟩; try simp only [Act.put, List.setIfInBounds_toArray, List.set_cons_zero, List.set_cons_succ, List.getElem_toArray, List.getElem_cons_zero, List.getElem_cons_succ]))
  refine bodyPost_ret (results_row2 (cs := Z) rfl rfl rfl (rangeAt_all (store_all HB1.out rfl)) Tryd.underlying54 rfl HSZ.out) rfl ⟨rfl, ?_⟩
  exact HK1.out.setCells (.inr (by rw [HQ.out]; exact Nat.le_refl _)) _ _
end Go.Proofs.YtojlojdkhegbkaaDoor

/-
  Package proof: begin.
-/
namespace Go.Proofs.YtojlojdkhegbkaaDoor
set_option linter.unusedVariables false
set_option linter.unusedSimpArgs false
open Go.RowKit

/-- The digests of the empty subtrees of the heights below n. -/
def emptiesL (k n : Nat) : List (List UInt8) := (List.range n).map (emptyD k)
theorem emptiesL_succ (k n : Nat) : emptiesL k (n + 1) = emptiesL k n ++ [emptyD k n] := by simp [emptiesL, List.range_succ]
theorem emptiesL_length (k n : Nat) : (emptiesL k n).length = n := by simp [emptiesL]
theorem emptiesL_32 {k : Nat} (hk : k ≤ 32) (n : Nat) : ∀ s ∈ emptiesL k n, s.length = 32 := by
  intro s hs
  obtain ⟨j, _, rfl⟩ := List.mem_map.1 hs
  exact emptyD_length hk j
theorem sumCells_append (a b : List (List UInt8)) : sumCells (a ++ b) = sumCells a ++ sumCells b := by simp [sumCells]
theorem sumCells_one (s : List UInt8) : sumCells [s] = s.map B := by simp [sumCells]
theorem sumCells_length {l : List (List UInt8)} (h : ∀ s ∈ l, s.length = 32) : (sumCells l).length = l.length * 32 := by
  induction l with
  | nil => rfl
  | cons s l ih =>
    have h1 := h s (by simp)
    have h2 := ih (fun x hx => h x (by simp [hx]))
    unfold sumCells at h2 ⊢
    rw [List.flatMap_cons, List.length_append, h2, List.length_map, h1, List.length_cons]
    omega
/-- A way in memory: the width, the sums, the empty ones. -/
structure WayAt (w : World) (g : Nat) (n : Int) (S E : List (List UInt8)) : Prop where
  row : w.heap[g]? = some (.cells (.int .i64 n :: (sumCells S ++ sumCells E)).toArray 59 (0, 0))
  lenS : S.length = 256
  lenE : E.length = 256
  s32 : ∀ s ∈ S, s.length = 32
  e32 : ∀ s ∈ E, s.length = 32
theorem WayAt.keeps {w w' : World} {g : Nat} {n : Int} {S E : List (List UInt8)} {F : List Nat} (h : WayAt w g n S E) (hk : Keeps F w w') (hg : g ∉ F) : WayAt w' g n S E :=
  ⟨(hk.block g (lt_of_heap h.row) hg).trans h.row, h.lenS, h.lenE, h.s32, h.e32⟩
theorem way_store {w : World} {q o : Nat} {L : List Value} {x : List UInt8} (h : w.heap[q]? = some (.cells L.toArray 59 (0, 0))) (ho : o + 32 ≤ L.length) (hl : x.length = 32) :
    (Instr.storeAt 52 (.pointer (some ⟨q, o, none⟩)) (.agg (x.map B).toArray)).run Tryd.prog w = .ok () (w.setCells q o (x.map B)) := by
  have := run_storeAt_mid (P := Tryd.prog) w q o 52 (x.map B).toArray (there_all h o _ (by simp; omega)) (by rw [dg_size]; simp [hl]) (all_oneCell_toArray (B_one x))
  simpa using this
theorem size_256d : (Tryd.prog.info? 57).map (·.size) = some 8192 := by kernel_rfl
theorem sumCells_one' (l : List (List UInt8)) : (sumCells l).toArray.all (·.oneCell') = true := by
  apply all_oneCell_toArray
  intro v hv
  obtain ⟨s, _, hs⟩ := List.mem_flatMap.1 hv
  exact B_one s v hs
theorem way_zero (n : Int) : ∃ Z : List Value, Z.length = 16384 ∧ Tryd.zeroCells59.setIfInBounds 0 (.int .i64 n) = (.int .i64 n :: Z).toArray := by
  have hs := Tryd.zeroCells59_size
  generalize Tryd.zeroCells59 = A at hs ⊢
  refine ⟨A.toList.tail, by simp [hs], ?_⟩
  apply Array.ext'
  rw [Array.toList_setIfInBounds]
  obtain ⟨l⟩ := A
  cases l with
  | nil => simp at hs
  | cons x l => rfl
set_option maxRecDepth 100000 in
set_option maxHeartbeats 1600000 in
theorem begin_any {w : World} (n : Int) (n0 : -9223372036854775808 ≤ n) (n1 : n ≤ 9223372036854775807) (k : Nat) (hk : (k : Int) = max 0 (min n 32)) (ht : Tabs w) :
    Calls Tryd.prog 14 #[.int .i64 n] w fun e w' => ∃ q, e = .returned (.pointer (some ⟨q, 0, none⟩)) ∧ WayAt w' q n (emptiesL k 256) (emptiesL k 256) ∧ w.heap.size ≤ q ∧ Keeps [] w w' := by
  have hk32 : k ≤ 32 := by omega
  obtain ⟨X, hX, hXi⟩ : ∃ X : Array Value, X = Array.replicate 32 (.int .u8 0) ∧ (Tryd.prog.info? 52).map (fun i => (i.zero, i.size, i.bytes)) = some (some (.agg X), 32, 32) := ⟨_, rfl, info_digest⟩
  obtain ⟨Z, hZ, hZe⟩ := way_zero n
  obtain ⟨q, hq⟩ : ∃ q, q = w.heap.size := ⟨_, rfl⟩
  obtain ⟨w1, hw1⟩ : ∃ x, x = w.alloc (.cells (.int .i64 n :: Z).toArray 59 (0, 0)) := ⟨_, rfl⟩
  have k1 : Keeps [] w w1 := by rw [hw1]; exact (Keeps.refl _ _).alloc _
  have b1 : w1.heap[q]? = some (.cells (.int .i64 n :: Z).toArray 59 (0, 0)) := by rw [hw1]; exact heap_new_at hq
  have hem := emptyD_any (w := w1) n n0 n1 k hk (ht.keeps k1 (by simp) (by simp)) 0 (by omega)
  rw [show ((0 : Nat) : Int) = 0 from rfl] at hem
  have HEM := Lib.hid hem
  have HT := Lib.hid ht
  have HK := Lib.hid hk
  have HW1 := Lib.hid hw1
  have HQ := Lib.hid hq
  have HX := Lib.hid hX
  have HXI := Lib.hid hXi
  have HZ := Lib.hid hZ
  have HZE := Lib.hid hZe
  have HK1 := Lib.hid k1
  have HB1 := Lib.hid b1
  clear hw1 hq hX hXi hZ hZe k1 b1 ht hk hem
  go_enter Tryd.func14, Tryd.ntmps14
  go_upto_region 2 with fail
  rw [HZE.out, ← HW1.out, ← HQ.out]
  have hq1 : q < w1.heap.size := lt_of_heap HB1.out
  go_upto_region 3 with (first | (go_at_call 30; refine HEM.out.mono ?_; rintro e w2 ⟨rfl, hk2⟩) | (refine wl_alloc rfl 52 rfl ?_; refine ⟨_, _, run_alloc _ HXI.out, ?_⟩; (try simp only [Value.cells]); try simp only [Act.put, List.setIfInBounds_toArray, List.set_cons_zero, List.set_cons_succ, List.getElem_toArray, List.getElem_cons_zero, List.getElem_cons_succ]) | (refine wl_store rfl 52 (.tmp 4) (.tmp 10) rfl ?_; refine ⟨_, dg_run_store (heap_new_at rfl |>.trans (by rw [HX.out])) (emptyD_length hk32 0), ?_⟩; try simp only [Act.put, List.setIfInBounds_toArray, List.set_cons_zero, List.set_cons_succ, List.getElem_toArray, List.getElem_cons_zero, List.getElem_cons_succ]))
  obtain ⟨q4, hq4⟩ : ∃ x, x = w2.heap.size := ⟨_, rfl⟩
  obtain ⟨w3, hw3⟩ : ∃ x, x = (w2.alloc (.cells X 52 (0, 0))).setCells q4 0 ((emptyD k 0).map B) := ⟨_, rfl⟩
  have b4 : Blk w3 q4 52 (emptyD k 0) := by
    rw [hw3]
    exact dg_store ((heap_new_at hq4).trans (by rw [HX.out])) (emptyD_length hk32 0)
  have k23 : Keeps [] w2 w3 := by rw [hw3]; exact ((Keeps.refl _ _).alloc _).setCells (.inr (by rw [hq4]; exact Nat.le_refl _)) _ _
  have k13 : Keeps [] w1 w3 := hk2.trans (G := []) k23 (by simp)
  have hqq : q < q4 := by rw [hq4]; exact Nat.lt_of_lt_of_le hq1 hk2.size
  have b3 : w3.heap[q]? = some (.cells (.int .i64 n :: Z).toArray 59 (0, 0)) := (k13.block q hq1 (by simp)).trans HB1.out
  have HB3 := Lib.hid b3
  have HB4 := Lib.hid b4
  have HK3 := Lib.hid (HK1.out.trans (G := []) k13 (by simp))
  have HQQ := Lib.hid hqq
  have hgl := HT.out.lt
  have HT3 := Lib.hid (HT.out.keeps HK3.out (by simp) (by simp))
  have HGL := Lib.hid (show (1 ≠ q ∧ 1 ≠ q4) ∧ (0 ≠ q ∧ 0 ≠ q4) by have := HQ.out; omega)
  have HQW := Lib.hid (show w.heap.size ≤ q ∧ w.heap.size ≤ q4 by have := HQ.out; omega)
  rw [← hq4]
  rw [← hw3]
  clear hq4 hw3 b4 k23 k13 hqq b3 hk2 hgl HEM HB1 HK1 hq1
  go_wp2_with fail
  go_loopw [11] (fun iv wr => ∃ j : Nat, j ≤ 256 ∧ iv = .int .i64 j ∧ Blk wr q4 52 (emptyD k j) ∧ wr.heap[q]? = some (.cells (.int .i64 n :: (Z.take 8192 ++ (sumCells (emptiesL k j) ++ Z.drop (8192 + j * 32)))).toArray 59 (0, 0)) ∧ Keeps [q, q4] w3 wr) (fun iv _ => 256 - (intOf iv).toNat)
  case atStart =>
    refine ⟨0, by omega, rfl, HB4.out, ?_, Keeps.refl _ _⟩
    rw [show sumCells (emptiesL k 0) = [] from rfl, List.nil_append, show 8192 + 0 * 32 = 8192 from rfl, List.take_append_drop]
    exact HB3.out
  case round =>
    obtain ⟨j, hj, rfl, hb, hrw, hkr⟩ := hrel
    have hl32 : (emptyD k j).length = 32 := emptyD_length hk32 j
    have hcl : (sumCells (emptiesL k j)).length = j * 32 := by rw [sumCells_length (emptiesL_32 hk32 j), emptiesL_length]
    by_cases hlt : j < 256
    · have hbr := branch_any (w := wr) hl32 hl32 n n0 n1 k HK.out (HT3.out.keeps hkr (by simp; exact HGL.out.1) (by simp; exact HGL.out.2))
      have hl33 : (emptyD k (j + 1)).length = 32 := emptyD_length hk32 (j + 1)
      obtain ⟨E, hE⟩ : ∃ E, E = emptyD k j := ⟨_, rfl⟩
      obtain ⟨E1, hE1⟩ : ∃ E1, E1 = emptyD k (j + 1) := ⟨_, rfl⟩
      obtain ⟨L, hL⟩ : ∃ L, L = Value.int .i64 n :: (Z.take 8192 ++ (sumCells (emptiesL k j) ++ Z.drop (8192 + j * 32))) := ⟨_, rfl⟩
      have hLl : 8193 + j * 32 + 32 ≤ L.length := by rw [hL]; simp [hcl, HZ.out]; omega
      rw [← hL] at hrw
      rw [← hE] at hl32 hb
      rw [← hE1] at hl33
      have hst := fun (wx : World) (hx : wx.heap[q]? = some (.cells L.toArray 59 (0, 0))) => way_store hx hLl hl32
      have hbr2 := fun (wx : World) (hx : Keeps [q] wr wx) => branch_any (w := wx) hl32 hl32 n n0 n1 k HK.out ((HT3.out.keeps hkr (by simp; exact HGL.out.1) (by simp; exact HGL.out.2)).keeps hx (by simp; exact HGL.out.1.1) (by simp; exact HGL.out.2.1))
      rw [show branchD k E E = E1 by rw [hE, hE1]; rfl] at hbr2
      obtain ⟨w4, hw4⟩ : ∃ x, x = wr.drew.setCells q (8193 + j * 32) (E.map B) := ⟨_, rfl⟩
      have k4 : Keeps [q] wr w4 := by rw [hw4]; exact ((Keeps.refl _ _).drew).setCells (.inl (by simp)) _ _
      have hb4 : Blk w4 q4 52 E := hb.keeps k4 (by simp; have := HQQ.out; omega)
      have hr4 : w4.heap[q]? = some (.cells (.int .i64 n :: (Z.take 8192 ++ (sumCells (emptiesL k (j + 1)) ++ Z.drop (8192 + (j + 1) * 32)))).toArray 59 (0, 0)) := by
        rw [hw4, heap_setCells_same q 59 (E.map B) (8193 + j * 32) wr.drew L (show wr.drew.heap[q]? = _ from hrw) (by rw [List.length_map, hl32]; exact hLl)]
        congr 3
        have h8 : (Z.take 8192).length = 8192 := by rw [List.length_take, HZ.out]; rfl
        have e1 : L = (Value.int .i64 n :: (Z.take 8192 ++ sumCells (emptiesL k j))) ++ Z.drop (8192 + j * 32) := by rw [hL]; simp
        have e2 : (Value.int .i64 n :: (Z.take 8192 ++ sumCells (emptiesL k j))).length = 8193 + j * 32 := by rw [List.length_cons, List.length_append, h8, hcl]; omega
        rw [e1, List.take_left' e2, List.length_map, hl32, ← e2, List.drop_append, e2, List.drop_drop, List.drop_eq_nil_of_le (by rw [e2]; omega), emptiesL_succ, sumCells_append, sumCells_one, ← hE]
        simp
        omega
      have HHB := Lib.hid hb
      have HHR := Lib.hid hrw
      have HKR := Lib.hid hkr
      have HST := Lib.hid hst
      have HBR := Lib.hid (hbr2 w4 k4)
      have HW4 := Lib.hid hw4
      have HK4 := Lib.hid k4
      have HB4' := Lib.hid hb4
      have HR4 := Lib.hid hr4
      have HL := Lib.hid (And.intro hl32 hl33)
      have HSD := Lib.hid (dg_size_of hl32)
      have HE1 := Lib.hid hE1
      have b0 : (0 : Int) ≤ (j : Int) := by omega
      have b1 : (j : Int) < ((256 : Nat) : Int) := by omega
      clear hb hrw hkr hl32 hl33 hcl hE hE1 hL hLl hst hbr2 hbr hw4 k4 hb4 hr4
      go_upto_region 6 with fail
      refine wp_region_held_drew (S := (fun w' => w'.rangeAt q4 0 (E.map B))) (by kernel_rfl) ?_ (fun hHeld => ?_)
      · exact rangeAt_all HHB.out
      refine' wpAnyH_take (i := 0) (v := _) rfl (by kernel_rfl) (by kernel_rfl) (by kernel_rfl) (fun _ _ _ h => h) (Or.inl ⟨by rfl, ?_⟩) (by assumption) ?_
      rotate_left 1
      · (intro w0 hSw; (try dsimp only at hSw); go_split_ands; go_simp; (try with_reducible rfl))
      try simp only [Act.put, List.setIfInBounds_toArray, List.set_cons_zero, List.set_cons_succ, List.getElem_toArray, List.getElem_cons_zero, List.getElem_cons_succ]
      refine' wpAnyH_take (i := 1) (v := _) rfl (by kernel_rfl) (by kernel_rfl) (by kernel_rfl) (fun _ _ _ h => h) (Or.inl ⟨by rfl, ?_⟩) (by assumption) ?_
      rotate_left 1
      · (intro w0 hSw; (try dsimp only at hSw); go_split_ands; go_simp; (try with_reducible rfl))
      try simp only [Act.put, List.setIfInBounds_toArray, List.set_cons_zero, List.set_cons_succ, List.getElem_toArray, List.getElem_cons_zero, List.getElem_cons_succ]
      refine' wpAnyH_take (i := 2) (v := _) rfl (by kernel_rfl) (by kernel_rfl) (by kernel_rfl) (fun _ _ _ h => h) (yieldsIf_load_mid (by rfl) 52 (.tmp 4) rfl q4 0 rfl (E.map B) _ (fun _ h => h) Tryd.underlying52 rfl HSD.out) (by assumption) ?_
      try simp only [Act.put, List.setIfInBounds_toArray, List.set_cons_zero, List.set_cons_succ, List.getElem_toArray, List.getElem_cons_zero, List.getElem_cons_succ]
      refine' wpAnyH_take (i := 3) (v := _) rfl (by kernel_rfl) (by kernel_rfl) (by kernel_rfl) (fun _ _ _ h => h) (Or.inl ⟨by rfl, ?_⟩) (by assumption) ?_
      rotate_left 1
      · (intro w0 hSw; (try dsimp only at hSw); go_split_ands; go_simp; (try with_reducible rfl))
      try simp only [Act.put, List.setIfInBounds_toArray, List.set_cons_zero, List.set_cons_succ, List.getElem_toArray, List.getElem_cons_zero, List.getElem_cons_succ]
      refine' wpAnyH_take (i := 4) (v := _) rfl (by kernel_rfl) (by kernel_rfl) (by kernel_rfl) (fun _ _ _ h => h) (Or.inl ⟨by rfl, ?_⟩) (by assumption) ?_
      rotate_left 1
      · (intro w0 hSw; (try dsimp only at hSw); go_split_ands; go_simp; (try with_reducible rfl))
      try simp only [Act.put, List.setIfInBounds_toArray, List.set_cons_zero, List.set_cons_succ, List.getElem_toArray, List.getElem_cons_zero, List.getElem_cons_succ]
      refine' wpAnyH_take (i := 5) (v := _) rfl (by kernel_rfl) (by kernel_rfl) (by kernel_rfl) (fun _ _ _ h => h) (Or.inl ⟨by rfl, ?_⟩) (by assumption) ?_
      rotate_left 1
      · (intro w0 hSw; (try dsimp only at hSw); go_split_ands; go_simp; (try with_reducible rfl))
      try simp only [Act.put, List.setIfInBounds_toArray, List.set_cons_zero, List.set_cons_succ, List.getElem_toArray, List.getElem_cons_zero, List.getElem_cons_succ]
      refine wpAnyH_ready (rs := [6]) (by kernel_rfl) (by simp) ?_
      refine AllReadyH.cons rfl (fun K hK => ?_) AllReadyH.nil
      (refine st_store rfl 52 (.tmp 19) (.tmp 16) rfl ?_; refine ⟨_, HST.out wr.drew HHR.out, ?_⟩; try simp only [Act.put, List.setIfInBounds_toArray, List.set_cons_zero, List.set_cons_succ, List.getElem_toArray, List.getElem_cons_zero, List.getElem_cons_succ])
      rw [← HW4.out]
      refine hK.out _ _ ?_ (fun hHeld => ?_)
      · exact rangeAt_all HB4'.out
      clear hK K
      try simp only [Act.put, List.setIfInBounds_toArray, List.set_cons_zero, List.set_cons_succ, List.getElem_toArray, List.getElem_cons_zero, List.getElem_cons_succ]
      refine wpAnyH_done (by kernel_rfl) ?_ _
      clear hHeld
      go_wp2_with (first | (refine wpList_load_mid rfl 52 (.tmp 4) rfl q4 0 (by rfl) (E.map B) _ (rangeAt_all HB4'.out) Tryd.underlying52 rfl HSD.out ?_; try simp only [Act.put, List.setIfInBounds_toArray, List.set_cons_zero, List.set_cons_succ, List.getElem_toArray, List.getElem_cons_zero, List.getElem_cons_succ]) | (go_at_call 31; refine HBR.out.mono ?_; rintro e w6 ⟨rfl, hk6⟩) | (refine wl_store rfl 52 (.tmp 4) (.tmp 23) rfl ?_; refine ⟨_, dg_run_store2 (HB4'.out.keeps hk6 (by simp)) HL.out.1 HL.out.2, ?_⟩; try simp only [Act.put, List.setIfInBounds_toArray, List.set_cons_zero, List.set_cons_succ, List.getElem_toArray, List.getElem_cons_zero, List.getElem_cons_succ]))
      go_roundw
      case rel =>
        have k46 : Keeps [q4] w4 (w6.setCells q4 0 (E1.map B)) := (hk6.mono (G := [q4]) (by simp)).setCells (.inl (by simp)) _ _
        refine ⟨j + 1, by omega, by go_num, ?_, (k46.block q (lt_of_heap HR4.out) (by simp; have := HQQ.out; omega)).trans HR4.out, (HKR.out.trans (G := [q]) HK4.out (fun k hk => .inl (by simp at hk; simp [hk]))).trans (G := [q4]) k46 (fun k hk => .inl (by simp at hk; simp [hk]))⟩
        have := dg_store2 (x := E1) (HB4'.out.keeps hk6 (by simp)) HL.out.1 HL.out.2
        rw [← HE1.out]
        exact this
      case measure => simp [intOf]; omega
    · have e : j = 256 := by omega
      subst e
      have h8 : (Z.take 8192).length = 8192 := by rw [List.length_take, HZ.out]; rfl
      have hz : Z.drop (8192 + 256 * 32) = [] := List.drop_eq_nil_of_le (by rw [HZ.out]; omega)
      obtain ⟨S, hS⟩ : ∃ S, S = sumCells (emptiesL k 256) := ⟨_, rfl⟩
      rw [hz, List.append_nil, ← hS] at hrw
      rw [← hS] at hcl
      have hS1 : S.toArray.all (·.oneCell') = true := by rw [hS]; exact sumCells_one' _
      have hrr : wr.rangeAt q 8193 S := by
        have := rangeAt_part (w := wr) (b := q) (xs := .int .i64 n :: Z.take 8192) (ys := S) (zs := []) (t := 59) (fr := (0, 0)) (by simpa using hrw)
        rw [List.length_cons, h8] at this
        exact this
      have hst := run_storeAt_mid (P := Tryd.prog) wr q 1 57 S.toArray (there_all hrw 1 _ (by simp [hcl, h8])) (by rw [size_256d]; simp [hcl]) hS1
      have HST := Lib.hid hst
      have HRR := Lib.hid hrr
      have HSZ := Lib.hid (show (Tryd.prog.info? 57).map (·.size) = some S.length by rw [size_256d, hcl])
      have hlast : WayAt (wr.setCells q 1 S.toArray.toList) q n (emptiesL k 256) (emptiesL k 256) := by
        refine ⟨?_, emptiesL_length _ _, emptiesL_length _ _, emptiesL_32 hk32 _, emptiesL_32 hk32 _⟩
        rw [heap_setCells_same q 59 _ 1 wr _ hrw (by simp [hcl, h8]), ← hS]
        congr 3
        simp [hcl]
        exact List.drop_left' h8
      have HLAST := Lib.hid hlast
      have HKK := Lib.hid (HK3.out.trans (G := [q, q4]) hkr (fun k hk => .inr (by have := HQW.out; simp at hk; rcases hk with rfl | rfl <;> omega)))
      clear hb hrw hkr hl32 hcl hS hS1 hrr hst hlast h8 hz
      go_wp2_with (first | (refine wpList_load_mid rfl 57 (.tmp 28) rfl q 8193 (by rfl) S _ HRR.out Tryd.underlying57 rfl HSZ.out ?_; try simp only [Act.put, List.setIfInBounds_toArray, List.set_cons_zero, List.set_cons_succ, List.getElem_toArray, List.getElem_cons_zero, List.getElem_cons_succ]) | (refine wl_store rfl 57 (.tmp 31) (.tmp 29) rfl ?_; refine ⟨_, HST.out, ?_⟩; try simp only [Act.put, List.setIfInBounds_toArray, List.set_cons_zero, List.set_cons_succ, List.getElem_toArray, List.getElem_cons_zero, List.getElem_cons_succ]))
      go_ret
      exact ⟨q, rfl, HLAST.out, HQW.out.1, HKK.out.setCells (.inr HQW.out.1) _ _⟩
end Go.Proofs.YtojlojdkhegbkaaDoor

/-
  Package proof: nodeAt at a staged page that is no node's.
-/
namespace Go.Proofs.YtojlojdkhegbkaaDoor
set_option linter.unusedVariables false
set_option linter.unusedSimpArgs false
open Go.RowKit

theorem StoreIn.c_mem {w : World} {s b bf c bm : Nat} {S : St} {sv : Value} (h : StoreIn w s b S bf c bm sv) : c < w.heap.size := h.lt c (mem_stF.2 (.inr (.inr (.inl (by simp [caF])))))
set_option maxRecDepth 100000 in
set_option maxHeartbeats 1600000 in
theorem nodeAt_3 {w : World} {s b bf c bm : Nat} {S : St} {sv : Value} {d : D} {F : List Nat} {e : Ent} (h : StoreIn w s b S bf c bm sv) (hd : DiskAt w b d F) (hl : liveE d S.f = 0) (he : e ∈ S.C.kept) (hll : e.load.length ≤ 246) (h3 : e.kind = 3)
    (depth stated : Int) (key : List UInt8) :
    Calls Tryd.prog 33 #[.pointer (some ⟨s, 0, none⟩), .int .i64 e.key, .int .i64 depth, .int .i64 stated, .agg (key.map B).toArray] w fun r w' => r = .returned (.tuple #[.agg (nodeC nd0 (.slice none 0 0)).toArray, .int .i64 4]) ∧
      StoreIn w' s b { S with C := { S.C with hits := wrap64 (S.C.hits + 1) } } bf c bm sv ∧ Keeps [c] w w' := by
  obtain ⟨Z, hZ, hZi, hZ1, hZb⟩ : ∃ Z : List Value, Z.length = 102 ∧ (Tryd.prog.info? 54).map (fun i => (i.zero, i.size, i.bytes)) = some (some (.agg Z.toArray), 102, 160) ∧ (∀ v ∈ Z, v.oneCell' = true) ∧ Z = nodeC nd0 (.slice none 0 0) := ⟨_, nodeC_length nd0_ok _, info_node, nodeC_ones, rfl⟩
  have hbld : ∀ w, (Instr.build 54 #[]).run Tryd.prog w = .ok (.agg Z.toArray) w := fun w => by rw [hZb]; exact run_build_node0 w
  have hdec : ∀ (w : World) v, Calls Tryd.prog 52 #[.int .i64 3, v] w fun e w' => e = .returned (.tuple #[.agg Z.toArray, .int .i64 90]) ∧ Keeps [] w w' := fun w v => by rw [hZb]; exact decode_3 v
  rw [← hZb]
  obtain ⟨q, hq0⟩ : ∃ q, q = (w.alloc (.cells (key.map B).toArray 23 (0, 0))).heap.size := ⟨_, rfl⟩
  have hq : q = w.heap.size + 1 := by rw [hq0]; simp
  have HQ0 := Lib.hid hq0
  clear hq0
  obtain ⟨w1, hw1⟩ : ∃ x, x = (w.alloc (.cells (key.map B).toArray 23 (0, 0))).alloc (.cells Z.toArray 54 (0, 0)) := ⟨_, rfl⟩
  have k1 : Keeps [] w w1 := by rw [hw1]; exact ((Keeps.refl _ _).alloc _).alloc _
  have b1 : w1.heap[q]? = some (.cells Z.toArray 54 (0, 0)) := by rw [hw1]; exact heap_new_at (by simp; omega)
  have hload := sLoad_staged (h.keeps k1 (by simp)) (hd.keeps k1 (by simp)) hl he hll
  rw [h3] at hload
  have HLO := Lib.hid hload
  have HC := Lib.hid h.c_mem
  have HSLT := Lib.hid h.lt
  have HDEC := Lib.hid hdec
  have HBL := Lib.hid hbld
  have HZI := Lib.hid hZi
  have HW1 := Lib.hid hw1
  have HQ := Lib.hid hq
  have HK1 := Lib.hid k1
  have HB1 := Lib.hid b1
  have HZ := Lib.hid hZ
  have HZO := Lib.hid hZ1
  have HSZ := Lib.hid (show (Tryd.prog.info? 54).map (·.size) = some Z.length by rw [hZ]; exact size_node)
  clear hbld hZi hw1 hq k1 b1 hZ hZ1 hZb h hd hl he hll h3 hload hdec
  go_enter Tryd.func33, Tryd.ntmps33
  go_upto_region 1 with (first | (refine wl_alloc rfl 54 rfl ?_; refine ⟨_, _, run_alloc _ HZI.out, ?_⟩; try simp only [Act.put, List.setIfInBounds_toArray, List.set_cons_zero, List.set_cons_succ, List.getElem_toArray, List.getElem_cons_zero, List.getElem_cons_succ]))
  try simp only [Value.cells]
  rw [← HW1.out, ← HQ0.out]
  go_upto_region 4 with (first | (go_at_call 51; refine HLO.out.mono ?_; rintro r w2 ⟨a, cp, rfl, hown, hnew, hs2, hk2⟩))
  have hcq : c ≠ q := by have := HC.out; have := HQ.out; omega
  have hq2 := (hk2.block q (lt_of_heap HB1.out) (by simp; omega)).trans HB1.out
  have HS2 := Lib.hid hs2
  have HQ2 := Lib.hid hq2
  have HK2 := Lib.hid ((HK1.out.mono (G := [c]) (by simp)).trans (G := [c]) hk2 (fun j hj => .inl hj))
  clear hown hnew hs2 hk2 hq2
  go_upto_region 6 with (first | (go_at_call 52; refine (HDEC.out w2 _).mono ?_; rintro e w3 ⟨rfl, hk3⟩) | (refine wl_alloc rfl 54 rfl ?_; refine ⟨_, _, run_alloc _ HZI.out, ?_⟩; (try simp only [Value.cells]); try simp only [Act.put, List.setIfInBounds_toArray, List.set_cons_zero, List.set_cons_succ, List.getElem_toArray, List.getElem_cons_zero, List.getElem_cons_succ]) | (refine wl_store rfl 54 (.tmp 15) (.tmp 31) rfl ?_; refine ⟨_, run_store_node (heap_new_at rfl) HZ.out HZ.out HZO.out, ?_⟩; try simp only [Act.put, List.setIfInBounds_toArray, List.set_cons_zero, List.set_cons_succ, List.getElem_toArray, List.getElem_cons_zero, List.getElem_cons_succ]))
  obtain ⟨w5, hw5⟩ : ∃ x, x = (w3.alloc (.cells Z.toArray 54 (0, 0))).setCells w3.heap.size 0 Z := ⟨_, rfl⟩
  have k35 : Keeps [w3.heap.size] w3 w5 := by rw [hw5]; exact ((Keeps.refl _ _).alloc _).setCells (.inl (by simp)) _ _
  have k25 : Keeps [] w2 w5 := (hk3.trans (G := [w3.heap.size]) k35 (fun j hj => by simp at hj; subst hj; exact .inr hk3.size))
  have hq5 := (k25.block q (lt_of_heap HQ2.out) (by simp)).trans HQ2.out
  have HS5 := Lib.hid (HS2.out.keeps k25 (by simp))
  have HK5 := Lib.hid (HK2.out.trans (G := []) k25 (by simp))
  have HQ5 := Lib.hid hq5
  rw [← hw5]
  clear hk3 hw5 k35 k25 hq5 HS2 HK2 HQ2
  go_wp2_with (first | (refine wl_build rfl 54 #[] #[] rfl (by simp [Act.eval]) ?_; refine ⟨_, _, HBL.out _, ?_⟩; try simp only [Act.put, List.setIfInBounds_toArray, List.set_cons_zero, List.set_cons_succ, List.getElem_toArray, List.getElem_cons_zero, List.getElem_cons_succ]) | (refine wl_store rfl 54 (.tmp 10) (.tmp 35) rfl ?_; refine ⟨_, run_store_node HQ5.out HZ.out HZ.out HZO.out, ?_⟩; try simp only [Act.put, List.setIfInBounds_toArray, List.set_cons_zero, List.set_cons_succ, List.getElem_toArray, List.getElem_cons_zero, List.getElem_cons_succ]))
  have k6 : Keeps [q] w5 (w5.setCells q 0 Z) := (Keeps.refl _ _).setCells (.inl (by simp)) _ _
  refine bodyPost_ret (results_row2 (cs := Z) rfl rfl rfl (rangeAt_all (store_all HQ5.out rfl)) Tryd.underlying54 rfl HSZ.out) rfl ⟨rfl, ?_, ?_⟩
  · refine HS5.out.keeps k6 (fun k hk e => ?_)
    simp at e
    subst e
    have := HSLT.out k hk
    have := HQ.out
    omega
  · exact HK5.out.setCells (.inr (by rw [HQ.out]; omega)) _ _
end Go.Proofs.YtojlojdkhegbkaaDoor

/-
  Package proof: down, from page 0 and from a page that is no node's.
-/
namespace Go.Proofs.YtojlojdkhegbkaaDoor
set_option linter.unusedVariables false
set_option linter.unusedSimpArgs false
open Go.RowKit

set_option maxRecDepth 100000 in
set_option maxHeartbeats 1600000 in
theorem down_zero {w : World} {v1 v2 : Value} {key : List UInt8} :
    Calls Tryd.prog 16 #[v1, v2, .int .i64 0, .agg (key.map B).toArray] w fun r w' => r = .returned (.tuple #[.pointer none, .int .i64 0]) ∧ Keeps [] w w' := by
  obtain ⟨w1, hw1⟩ : ∃ x, x = w.alloc (.cells (key.map B).toArray 23 (0, 0)) := ⟨_, rfl⟩
  have k1 : Keeps [] w w1 := by rw [hw1]; exact (Keeps.refl _ _).alloc _
  have HW1 := Lib.hid hw1
  have HK1 := Lib.hid k1
  clear hw1 k1
  go_enter Tryd.func16, Tryd.ntmps16
  go_wp2_with fail
  rw [← HW1.out]
  go_loopw [10] (fun pg wr => pg = .int .i64 0 ∧ wr = w1) (fun _ _ => 0)
  case atStart => exact ⟨rfl, rfl⟩
  case round =>
    obtain ⟨rfl, rfl⟩ := hrel
    go_wp2_with fail
    go_ret2
    exact ⟨rfl, HK1.out⟩
set_option maxRecDepth 100000 in
set_option maxHeartbeats 1600000 in
theorem down_3 {w : World} {v1 : Value} {s b bf c bm : Nat} {S : St} {sv : Value} {d : D} {F : List Nat} {e : Ent} (h : StoreIn w s b S bf c bm sv) (hd : DiskAt w b d F) (hl : liveE d S.f = 0) (he : e ∈ S.C.kept) (hll : e.load.length ≤ 246) (h3 : e.kind = 3)
    {key : List UInt8} (hkl : key.length = 32) :
    Calls Tryd.prog 16 #[v1, .pointer (some ⟨s, 0, none⟩), .int .i64 e.key, .agg (key.map B).toArray] w fun r w' => r = .returned (.tuple #[.pointer none, .int .i64 4]) ∧
      StoreIn w' s b { S with C := { S.C with hits := wrap64 (S.C.hits + 1) } } bf c bm sv ∧ Keeps [c] w w' := by
  obtain ⟨Z, hZ, hZi, hZ1, hZb⟩ : ∃ Z : List Value, Z.length = 102 ∧ (Tryd.prog.info? 54).map (fun i => (i.zero, i.size, i.bytes)) = some (some (.agg Z.toArray), 102, 160) ∧ (∀ v ∈ Z, v.oneCell' = true) ∧ Z = nodeC nd0 (.slice none 0 0) := ⟨_, nodeC_length nd0_ok _, info_node, nodeC_ones, rfl⟩
  have hne : ¬ e.key = 0 := by
    obtain ⟨i, hi⟩ := List.mem_iff_getElem?.1 he
    have hkey := h.keys i e hi
    have hm := h.mark
    omega
  obtain ⟨p, hp⟩ : ∃ p, p = e.key := ⟨_, rfl⟩
  obtain ⟨q, hq⟩ : ∃ q, q = w.heap.size := ⟨_, rfl⟩
  obtain ⟨w1, hw1⟩ : ∃ x, x = w.alloc (.cells (key.map B).toArray 23 (0, 0)) := ⟨_, rfl⟩
  have k1 : Keeps [] w w1 := by rw [hw1]; exact (Keeps.refl _ _).alloc _
  have b1 : Blk w1 q 23 key := by rw [hw1]; exact heap_new_at hq
  have hnode := nodeAt_3 (h.keeps k1 (by simp)) (hd.keeps k1 (by simp)) hl he hll h3 0 (-1) key
  rw [← hZb, ← hp] at hnode
  rw [← hp] at hne ⊢
  have HND := Lib.hid hnode
  have HR := Lib.hid (rangeAt_all (show w1.heap[q]? = some (.cells (key.map B).toArray 23 (0, 0)) from b1))
  have HSK := Lib.hid (size_key_of hkl)
  have HZI := Lib.hid hZi
  have HZ := Lib.hid hZ
  have HZO := Lib.hid hZ1
  have HW1 := Lib.hid hw1
  have HQ := Lib.hid hq
  have HK1 := Lib.hid k1
  clear h hd hl he hll h3 hkl hp hq hw1 k1 b1 hnode hZi hZ hZ1 hZb
  go_enter Tryd.func16, Tryd.ntmps16
  go_wp2_with fail
  rw [← HW1.out, ← HQ.out]
  go_loopw [10, 11, 12] (fun pg st dp wr => pg = .int .i64 p ∧ st = .int .i64 (-1) ∧ dp = .int .i64 0 ∧ wr = w1) (fun _ _ _ _ => 0)
  case atStart => exact ⟨rfl, rfl, rfl, rfl⟩
  case round =>
    obtain ⟨rfl, rfl, rfl, rfl⟩ := hrel
    go_wp2_with (first | (refine wpList_load_mid rfl 23 (.tmp 7) rfl q 0 (by rfl) (key.map B) _ HR.out Tryd.underlying23 rfl HSK.out ?_; try simp only [Act.put, List.setIfInBounds_toArray, List.set_cons_zero, List.set_cons_succ, List.getElem_toArray, List.getElem_cons_zero, List.getElem_cons_succ]) | (go_at_call 33; refine HND.out.mono ?_; rintro r w2 ⟨rfl, hs2, hk2⟩) | (refine wl_alloc rfl 54 rfl ?_; refine ⟨_, _, run_alloc _ HZI.out, ?_⟩; (try simp only [Value.cells]); try simp only [Act.put, List.setIfInBounds_toArray, List.set_cons_zero, List.set_cons_succ, List.getElem_toArray, List.getElem_cons_zero, List.getElem_cons_succ]) | (refine wl_store rfl 54 (.tmp 13) (.tmp 31) rfl ?_; refine ⟨_, run_store_node (heap_new_at rfl) HZ.out HZ.out HZO.out, ?_⟩; try simp only [Act.put, List.setIfInBounds_toArray, List.set_cons_zero, List.set_cons_succ, List.getElem_toArray, List.getElem_cons_zero, List.getElem_cons_succ]))
    go_ret2
    have k3 : Keeps [] w2 ((w2.alloc (.cells Z.toArray 54 (0, 0))).setCells w2.heap.size 0 Z) := ((Keeps.refl _ _).alloc _).setCells (.inr (Nat.le_refl _)) _ _
    exact ⟨rfl, hs2.keeps k3 (by simp), ((HK1.out.mono (G := [c]) (by simp)).trans (G := [c]) hk2 (fun j hj => .inl hj)).trans (G := []) k3 (by simp)⟩
end Go.Proofs.YtojlojdkhegbkaaDoor

/-
  Package proof: Prove, where it refuses and where the tree is the empty one.
-/
namespace Go.Proofs.YtojlojdkhegbkaaDoor
set_option linter.unusedVariables false
set_option linter.unusedSimpArgs false
open Go.RowKit

def pfZ : Pf := ⟨false, [], List.replicate 32 0, []⟩
/-- The cells of api.Proof{}. -/
def pfZC : List Value := pfCells pfZ (.slice none 0 0) (.slice none 0 0)
theorem pfZ_in (w : World) : PfIn w (.agg pfZC.toArray) pfZ := ⟨_, _, rfl, BytesAt_nil w, .inl ⟨rfl, none, 0, rfl, by simp [maxLen]⟩, by simp [pfZ], by simp [pfZ]⟩
theorem pfZC_spec : pfZC.length = 35 ∧ (Tryd.prog.info? 28).map (fun i => (i.zero, i.size, i.bytes)) = some (some (.agg pfZC.toArray), 35, 88) ∧ (∀ v ∈ pfZC, v.oneCell' = true) := ⟨pf_length (by simp [pfZ]) _ _, info_proof, pf_ones⟩
theorem run_build_pfZ (w : World) : (Instr.build 28 #[]).run Tryd.prog w = .ok (.agg pfZC.toArray) w := by kernel_rfl
/-- What Prove answers beside an error. -/
def refusal (e : Int) : Ending := .returned (.tuple #[.agg pfZC.toArray, .int .i64 e])
set_option maxRecDepth 100000 in
set_option maxHeartbeats 1600000 in
theorem prove_nil {w : World} (root : Int) (key : List UInt8) :
    Calls Tryd.prog 5 #[.pointer none, .int .i64 root, .agg (key.map B).toArray] w fun r w' => r = refusal 1 ∧ Keeps [] w w' := by
  obtain ⟨Z, ⟨hZ, hZi, hZ1⟩, hZb⟩ : ∃ Z : List Value, (Z.length = 35 ∧ (Tryd.prog.info? 28).map (fun i => (i.zero, i.size, i.bytes)) = some (some (.agg Z.toArray), 35, 88) ∧ (∀ v ∈ Z, v.oneCell' = true)) ∧ Z = pfZC := ⟨_, pfZC_spec, rfl⟩
  have hbld : ∀ w, (Instr.build 28 #[]).run Tryd.prog w = .ok (.agg Z.toArray) w := fun w => by rw [hZb]; exact run_build_pfZ w
  unfold refusal
  rw [← hZb]
  obtain ⟨q, hq0⟩ : ∃ q, q = (w.alloc (.cells (key.map B).toArray 23 (0, 0))).heap.size := ⟨_, rfl⟩
  have hq : q = w.heap.size + 1 := by rw [hq0]; simp
  have HQ0 := Lib.hid hq0
  clear hq0
  obtain ⟨w1, hw1⟩ : ∃ x, x = (w.alloc (.cells (key.map B).toArray 23 (0, 0))).alloc (.cells Z.toArray 28 (0, 0)) := ⟨_, rfl⟩
  have k1 : Keeps [] w w1 := by rw [hw1]; exact ((Keeps.refl _ _).alloc _).alloc _
  have b1 : w1.heap[q]? = some (.cells Z.toArray 28 (0, 0)) := by rw [hw1]; exact heap_new_at (by simp; omega)
  have HST := Lib.hid (run_store_pf b1 hZ hZ hZ1)
  have HBL := Lib.hid hbld
  have HZI := Lib.hid hZi
  have HW1 := Lib.hid hw1
  have HQ := Lib.hid hq
  have HK1 := Lib.hid k1
  have HB1 := Lib.hid b1
  have HSZ := Lib.hid (show (Tryd.prog.info? 28).map (·.size) = some Z.length by rw [hZ]; exact size_proof)
  clear hbld hZi hw1 hq k1 b1 hZ hZ1 hZb
  go_enter Tryd.func5, Tryd.ntmps5
  go_upto_region 1 with (first | (refine wl_alloc rfl 28 rfl ?_; refine ⟨_, _, run_alloc _ HZI.out, ?_⟩; try simp only [Act.put, List.setIfInBounds_toArray, List.set_cons_zero, List.set_cons_succ, List.getElem_toArray, List.getElem_cons_zero, List.getElem_cons_succ]))
  try simp only [Value.cells]
  rw [← HW1.out, ← HQ0.out]
  go_wp2_with (first | (refine wl_build rfl 28 #[] #[] rfl (by simp [Act.eval]) ?_; refine ⟨_, _, HBL.out _, ?_⟩; try simp only [Act.put, List.setIfInBounds_toArray, List.set_cons_zero, List.set_cons_succ, List.getElem_toArray, List.getElem_cons_zero, List.getElem_cons_succ]) | (refine wl_store rfl 28 (.tmp 6) (.tmp 18) rfl ?_; refine ⟨_, HST.out, ?_⟩; try simp only [Act.put, List.setIfInBounds_toArray, List.set_cons_zero, List.set_cons_succ, List.getElem_toArray, List.getElem_cons_zero, List.getElem_cons_succ]))
  refine bodyPost_ret (results_row2 (cs := Z) rfl rfl rfl (rangeAt_all (store_all HB1.out rfl)) Tryd.underlying28 rfl HSZ.out) rfl ⟨rfl, ?_⟩
  exact HK1.out.setCells (.inr (by rw [HQ.out]; omega)) _ _
set_option maxRecDepth 100000 in
set_option maxHeartbeats 1600000 in
theorem prove_dead {w : World} {s b bf c bm : Nat} {S : St} {sv : Value} {d : D} {F : List Nat} (h : StoreIn w s b S bf c bm sv) (hd : DiskAt w b d F) {E : Int} (hl : liveE d S.f = E) (hE : ¬ E = 0) (root : Int) (key : List UInt8) :
    Calls Tryd.prog 5 #[.pointer (some ⟨s, 0, none⟩), .int .i64 root, .agg (key.map B).toArray] w fun r w' => r = refusal E ∧ Keeps [] w w' := by
  obtain ⟨Z, ⟨hZ, hZi, hZ1⟩, hZb⟩ : ∃ Z : List Value, (Z.length = 35 ∧ (Tryd.prog.info? 28).map (fun i => (i.zero, i.size, i.bytes)) = some (some (.agg Z.toArray), 35, 88) ∧ (∀ v ∈ Z, v.oneCell' = true)) ∧ Z = pfZC := ⟨_, pfZC_spec, rfl⟩
  have hbld : ∀ w, (Instr.build 28 #[]).run Tryd.prog w = .ok (.agg Z.toArray) w := fun w => by rw [hZb]; exact run_build_pfZ w
  unfold refusal
  rw [← hZb]
  obtain ⟨q, hq0⟩ : ∃ q, q = (w.alloc (.cells (key.map B).toArray 23 (0, 0))).heap.size := ⟨_, rfl⟩
  have hq : q = w.heap.size + 1 := by rw [hq0]; simp
  have HQ0 := Lib.hid hq0
  clear hq0
  obtain ⟨w1, hw1⟩ : ∃ x, x = (w.alloc (.cells (key.map B).toArray 23 (0, 0))).alloc (.cells Z.toArray 28 (0, 0)) := ⟨_, rfl⟩
  have k1 : Keeps [] w w1 := by rw [hw1]; exact ((Keeps.refl _ _).alloc _).alloc _
  have b1 : w1.heap[q]? = some (.cells Z.toArray 28 (0, 0)) := by rw [hw1]; exact heap_new_at (by simp; omega)
  have CL := sLive_any (h.keeps k1 (by simp)) (hd.keeps k1 (by simp))
  rw [hl] at CL
  have CL' := Lib.hid CL
  have HBL := Lib.hid hbld
  have HZI := Lib.hid hZi
  have HW1 := Lib.hid hw1
  have HQ := Lib.hid hq
  have HK1 := Lib.hid k1
  have HB1 := Lib.hid b1
  have HZ := Lib.hid (And.intro hZ hZ1)
  have HSZ := Lib.hid (show (Tryd.prog.info? 28).map (·.size) = some Z.length by rw [hZ]; exact size_proof)
  clear hbld hZi hw1 hq k1 b1 hZ hZ1 hZb CL h hd hl
  go_enter Tryd.func5, Tryd.ntmps5
  go_upto_region 1 with (first | (refine wl_alloc rfl 28 rfl ?_; refine ⟨_, _, run_alloc _ HZI.out, ?_⟩; try simp only [Act.put, List.setIfInBounds_toArray, List.set_cons_zero, List.set_cons_succ, List.getElem_toArray, List.getElem_cons_zero, List.getElem_cons_succ]))
  try simp only [Value.cells]
  rw [← HW1.out, ← HQ0.out]
  go_upto_region 4 with (first | (go_at_call 12; refine CL'.out.mono ?_; rintro r w2 ⟨rfl, hk2⟩))
  have hb2 := (hk2.block q (lt_of_heap HB1.out) (by simp)).trans HB1.out
  have HB2 := Lib.hid hb2
  have HK2 := Lib.hid (HK1.out.trans (G := []) hk2 (by simp))
  clear hk2 hb2
  go_wp2_with (first | (refine wl_build rfl 28 #[] #[] rfl (by simp [Act.eval]) ?_; refine ⟨_, _, HBL.out _, ?_⟩; try simp only [Act.put, List.setIfInBounds_toArray, List.set_cons_zero, List.set_cons_succ, List.getElem_toArray, List.getElem_cons_zero, List.getElem_cons_succ]) | (refine wl_store rfl 28 (.tmp 6) (.tmp 23) rfl ?_; refine ⟨_, run_store_pf HB2.out HZ.out.1 HZ.out.1 HZ.out.2, ?_⟩; try simp only [Act.put, List.setIfInBounds_toArray, List.set_cons_zero, List.set_cons_succ, List.getElem_toArray, List.getElem_cons_zero, List.getElem_cons_succ]))
  refine bodyPost_ret (results_row2 (cs := Z) rfl rfl rfl (rangeAt_all (store_all HB2.out rfl)) Tryd.underlying28 rfl HSZ.out) rfl ⟨rfl, ?_⟩
  exact HK2.out.setCells (.inr (by rw [HQ.out]; omega)) _ _
end Go.Proofs.YtojlojdkhegbkaaDoor

/-
  Package proof: Prove from a staged page that is no node's.
-/
namespace Go.Proofs.YtojlojdkhegbkaaDoor
set_option linter.unusedVariables false
set_option linter.unusedSimpArgs false
open Go.RowKit

theorem field_width (w : World) (s : Sup) : (Instr.field 47 (supV s) 0).run Tryd.prog w = .ok (.int .i64 s.width) w := by kernel_rfl
set_option maxRecDepth 100000 in
set_option maxHeartbeats 3200000 in
theorem prove_3 {w : World} {s b bf c bm : Nat} {S : St} {sv : Value} {d : D} {F : List Nat} {e : Ent} (h : StoreIn w s b S bf c bm sv) (hd : DiskAt w b d F) (hl : liveE d S.f = 0) (he : e ∈ S.C.kept) (hll : e.load.length ≤ 246) (h3 : e.kind = 3)
    (h1 : 1 ≤ S.f.sup.width) (h2 : S.f.sup.width ≤ 32) (ht : Tabs w) {key : List UInt8} (hkl : key.length = 32) :
    Calls Tryd.prog 5 #[.pointer (some ⟨s, 0, none⟩), .int .i64 e.key, .agg (key.map B).toArray] w fun r w' => r = refusal 4 ∧
      StoreIn w' s b { S with C := { S.C with hits := wrap64 (S.C.hits + 1) } } bf c bm sv ∧ Keeps [c] w w' := by
  obtain ⟨Z, ⟨hZ, hZi, hZ1⟩, hZb⟩ : ∃ Z : List Value, (Z.length = 35 ∧ (Tryd.prog.info? 28).map (fun i => (i.zero, i.size, i.bytes)) = some (some (.agg Z.toArray), 35, 88) ∧ (∀ v ∈ Z, v.oneCell' = true)) ∧ Z = pfZC := ⟨_, pfZC_spec, rfl⟩
  have hbld : ∀ w, (Instr.build 28 #[]).run Tryd.prog w = .ok (.agg Z.toArray) w := fun w => by rw [hZb]; exact run_build_pfZ w
  unfold refusal
  rw [← hZb]
  obtain ⟨i, hi⟩ := List.mem_iff_getElem?.1 he
  have hkey := h.keys i e hi
  have hil := (List.getElem?_eq_some_iff.1 hi).1
  have hmark := h.mark
  have hroom := h.room
  obtain ⟨N, hN⟩ : ∃ N : Int, N = S.f.sup.mark + S.C.kept.length := ⟨_, rfl⟩
  obtain ⟨p, hp⟩ : ∃ p, p = e.key := ⟨_, rfl⟩
  have q0 : ¬ p = 0 := by omega
  have q1 : ¬ p < 2 := by omega
  have q2 : ¬ N ≤ p := by omega
  obtain ⟨q5, hq5⟩ : ∃ q, q = w.heap.size := ⟨_, rfl⟩
  obtain ⟨q, hq0⟩ : ∃ q, q = (w.alloc (.cells (key.map B).toArray 23 (0, 0))).heap.size := ⟨_, rfl⟩
  have hq : q = w.heap.size + 1 := by rw [hq0]; simp
  have HQ0 := Lib.hid hq0
  clear hq0
  obtain ⟨w1, hw1⟩ : ∃ x, x = (w.alloc (.cells (key.map B).toArray 23 (0, 0))).alloc (.cells Z.toArray 28 (0, 0)) := ⟨_, rfl⟩
  have k1 : Keeps [] w w1 := by rw [hw1]; exact ((Keeps.refl _ _).alloc _).alloc _
  have b1 : w1.heap[q]? = some (.cells Z.toArray 28 (0, 0)) := by rw [hw1]; exact heap_new_at (by simp; omega)
  have b5 : Blk w1 q5 23 key := by rw [hw1]; exact (heap_old_at (by simp; omega)).trans (heap_new_at hq5)
  have hs1 := h.keeps k1 (by simp)
  have hd1 := hd.keeps k1 (by simp)
  have CL := sLive_any hs1 hd1
  rw [hl] at CL
  have hnext := fun (wx : World) (hk : Keeps [] w1 wx) => sNext_any (hs1.keeps hk (by simp))
  rw [← hN] at hnext
  obtain ⟨SP, hSP⟩ : ∃ SP, SP = supV S.f.sup := ⟨_, rfl⟩
  have hsup := fun (wx : World) (hk : Keeps [] w1 wx) => sSuper_any (hs1.keeps hk (by simp))
  have hfw := fun (wx : World) => field_width wx S.f.sup
  rw [← hSP] at hsup hfw
  have hdown := fun (wx : World) (v1 : Value) (hk : Keeps [] w1 wx) => down_3 (v1 := v1) (hs1.keeps hk (by simp)) (hd1.keeps hk (by simp)) hl he hll h3 hkl
  rw [← hp] at hdown
  rw [← hp]
  obtain ⟨n, hn⟩ : ∃ n, n = S.f.sup.width := ⟨_, rfl⟩
  rw [← hn] at h1 h2 hfw
  have hbeg := fun (wx : World) (hk : Keeps [] w1 wx) => begin_any (w := wx) n (by omega) (by omega) n.toNat (by omega) ((ht.keeps k1 (by simp) (by simp)).keeps hk (by simp) (by simp))
  have CL' := Lib.hid CL
  have HNX := Lib.hid hnext
  have HSU := Lib.hid hsup
  have HFW := Lib.hid hfw
  have HBG := Lib.hid hbeg
  have HDN := Lib.hid hdown
  have HBL := Lib.hid hbld
  have HZI := Lib.hid hZi
  have HW1 := Lib.hid hw1
  have HQ := Lib.hid hq
  have HQ5 := Lib.hid hq5
  have HK1 := Lib.hid k1
  have HB1 := Lib.hid b1
  have HB5 := Lib.hid b5
  have HC := Lib.hid h.c_mem
  have HSLT := Lib.hid h.lt
  have HZ := Lib.hid (And.intro hZ hZ1)
  have HSK := Lib.hid (size_key_of hkl)
  have HSZ := Lib.hid (show (Tryd.prog.info? 28).map (·.size) = some Z.length by rw [hZ]; exact size_proof)
  clear hbld hZi hw1 hq hq5 k1 b1 b5 hZ hZ1 hZb CL hs1 hd1 h hd hl he hll h3 hkl hnext hsup hfw hdown hbeg hn hSP hN hp hi hkey hil hmark hroom ht
  go_enter Tryd.func5, Tryd.ntmps5
  go_upto_region 1 with (first | (refine wl_alloc rfl 28 rfl ?_; refine ⟨_, _, run_alloc _ HZI.out, ?_⟩; try simp only [Act.put, List.setIfInBounds_toArray, List.set_cons_zero, List.set_cons_succ, List.getElem_toArray, List.getElem_cons_zero, List.getElem_cons_succ]))
  try simp only [Value.cells]
  rw [← HW1.out, ← HQ0.out, ← HQ5.out]
  go_upto_region 4 with (first | (go_at_call 12; refine CL'.out.mono ?_; rintro r w2 ⟨rfl, hk2⟩))
  go_upto_region 6 with fail
  go_upto_region 8 with (first | (go_at_call 13; refine (HNX.out _ hk2).mono ?_; rintro r w3 ⟨rfl, hk3⟩))
  have hk13 := hk2.trans (G := []) hk3 (by simp)
  clear hk2 hk3
  go_upto_region 9 with (first | (go_at_call 15; refine (HSU.out _ hk13).mono ?_; rintro r w4 ⟨rfl, hk4⟩) | (refine wl_field rfl 47 (.tmp 39) 0 rfl ?_; refine ⟨_, _, HFW.out _, ?_⟩; try simp only [Act.put, List.setIfInBounds_toArray, List.set_cons_zero, List.set_cons_succ, List.getElem_toArray, List.getElem_cons_zero, List.getElem_cons_succ]) | (go_at_call 14; refine (HBG.out _ (hk13.trans (G := []) hk4 (by simp))).mono ?_; rintro r w5 ⟨qw, rfl, hway, hqw, hk5⟩))
  have hk15 := (hk13.trans (G := []) hk4 (by simp)).trans (G := []) hk5 (by simp)
  have HR5 := Lib.hid (rangeAt_all (HB5.out.keeps hk15 (by simp)))
  have HD5 := Lib.hid (HDN.out _ (.pointer (some ⟨qw, 0, none⟩)) hk15)
  have HK15 := Lib.hid hk15
  clear hk13 hk4 hk5 hk15 hway hqw
  go_upto_region 11 with (first | (refine wpList_load_mid rfl 23 (.tmp 5) rfl q5 0 (by rfl) (key.map B) _ HR5.out Tryd.underlying23 rfl HSK.out ?_; try simp only [Act.put, List.setIfInBounds_toArray, List.set_cons_zero, List.set_cons_succ, List.getElem_toArray, List.getElem_cons_zero, List.getElem_cons_succ]) | (go_at_call 16; refine HD5.out.mono ?_; rintro r w6 ⟨rfl, hs6, hk6⟩))
  have hcq : q ≠ c := by have := HC.out; have := HQ.out; omega
  have hb6 := (hk6.block q (lt_of_heap ((HK15.out.block q (lt_of_heap HB1.out) (by simp)).trans HB1.out)) (by simpa using hcq)).trans ((HK15.out.block q (lt_of_heap HB1.out) (by simp)).trans HB1.out)
  have HB6 := Lib.hid hb6
  have HS6 := Lib.hid hs6
  have HK6 := Lib.hid (((HK1.out.trans (G := []) HK15.out (by simp)).mono (G := [c]) (by simp)).trans (G := [c]) hk6 (fun j hj => .inl hj))
  clear hb6 hs6 hk6 HR5 HD5
  go_wp2_with (first | (refine wl_build rfl 28 #[] #[] rfl (by simp [Act.eval]) ?_; refine ⟨_, _, HBL.out _, ?_⟩; try simp only [Act.put, List.setIfInBounds_toArray, List.set_cons_zero, List.set_cons_succ, List.getElem_toArray, List.getElem_cons_zero, List.getElem_cons_succ]) | (refine wl_store rfl 28 (.tmp 6) (.tmp 52) rfl ?_; refine ⟨_, run_store_pf HB6.out HZ.out.1 HZ.out.1 HZ.out.2, ?_⟩; try simp only [Act.put, List.setIfInBounds_toArray, List.set_cons_zero, List.set_cons_succ, List.getElem_toArray, List.getElem_cons_zero, List.getElem_cons_succ]))
  have k7 : Keeps [q] w6 (w6.setCells q 0 Z) := (Keeps.refl _ _).setCells (.inl (by simp)) _ _
  refine bodyPost_ret (results_row2 (cs := Z) rfl rfl rfl (rangeAt_all (store_all HB6.out rfl)) Tryd.underlying28 rfl HSZ.out) rfl ⟨rfl, ?_, ?_⟩
  · refine HS6.out.keeps k7 (fun k hk e => ?_)
    simp at e
    subst e
    have := HSLT.out k hk
    have := HQ.out
    omega
  · exact HK6.out.setCells (.inr (by rw [HQ.out]; omega)) _ _
end Go.Proofs.YtojlojdkhegbkaaDoor

/-
  Package proof: Prove in the empty tree.
-/
namespace Go.Proofs.YtojlojdkhegbkaaDoor
set_option linter.unusedVariables false
set_option linter.unusedSimpArgs false
open Go.RowKit

theorem isAgg_digest (w : World) : (isAgg 52).run Tryd.prog w = .ok true w := by kernel_rfl
theorem sizeOf_digest (w : World) : (sizeOf 52).run Tryd.prog w = .ok 32 w := by kernel_rfl
theorem run_index_sum {l : List (List UInt8)} (h32 : ∀ s ∈ l, s.length = 32) (hlen : l.length = 256) {k : Nat} (hk : k < 256) {x : List UInt8} (hx : l[k]? = some x) (w : World) :
    (Instr.index 57 (.agg (sumCells l).toArray) (.int .i64 k)).run Tryd.prog w = .ok (.agg (x.map B).toArray) w := by
  have h0 : (0 : Int) ≤ (k : Int) := by omega
  have h1 : (k : Int) < ((256 : Nat) : Int) := by omega
  obtain ⟨hkl, hxe⟩ := List.getElem?_eq_some_iff.1 hx
  obtain ⟨xs, zs, he, hxl⟩ := sum_at h32 hkl
  have hxl2 : (l[k].map B).length = 32 := by rw [List.length_map]; exact h32 _ (List.getElem_mem hkl)
  have hex : (sumCells l).toArray.extract (k * 32) (k * 32 + 32) = (x.map B).toArray := by
    apply Array.ext'
    rw [Array.toList_extract, he, List.extract_eq_take_drop, List.append_assoc, List.drop_left' hxl, show k * 32 + 32 - k * 32 = 32 by omega, List.take_left' hxl2, hxe]
  simp only [Instr.index, asIntOf, run_underlying Tryd.underlying57, Sem.run_bind, Sem.run_pure, Result.andThen_ok, h0, h1, and_self, if_true, sizeOf_digest, part, isAgg_digest, Int.toNat_natCast, hex]
theorem WayAt.sums {w : World} {g : Nat} {n : Int} {S E : List (List UInt8)} (h : WayAt w g n S E) : w.rangeAt g 1 (sumCells S) := by
  have := rangeAt_part (w := w) (b := g) (xs := [.int .i64 n]) (ys := sumCells S) (zs := sumCells E) (t := 59) (fr := (0, 0)) (by rw [List.append_assoc]; exact h.row)
  simpa using this
theorem WayAt.empties {w : World} {g : Nat} {n : Int} {S E : List (List UInt8)} (h : WayAt w g n S E) : w.rangeAt g 8193 (sumCells E) := by
  have := rangeAt_part (w := w) (b := g) (xs := .int .i64 n :: sumCells S) (ys := sumCells E) (zs := []) (t := 59) (fr := (0, 0)) (by simpa using h.row)
  have hl : (Value.int .i64 n :: sumCells S).length = 8193 := by rw [List.length_cons, sumCells_length h.s32, h.lenS]
  rw [hl] at this
  exact this
theorem sum_range {w : World} {g o : Nat} {l : List (List UInt8)} (h : w.rangeAt g o (sumCells l)) (h32 : ∀ s ∈ l, s.length = 32) {k : Nat} {x : List UInt8} (hx : l[k]? = some x) : w.rangeAt g (o + k * 32) (x.map B) := by
  obtain ⟨hkl, rfl⟩ := List.getElem?_eq_some_iff.1 hx
  exact SumsAt.row h h32 hkl rfl
set_option maxRecDepth 100000 in
set_option maxHeartbeats 3200000 in
theorem prove_zero {w : World} {s b bf c bm : Nat} {S : St} {sv : Value} {d : D} {F : List Nat} (h : StoreIn w s b S bf c bm sv) (hd : DiskAt w b d F) (hl : liveE d S.f = 0)
    (h1 : 1 ≤ S.f.sup.width) (h2 : S.f.sup.width ≤ 32) (ht : Tabs w) {key : List UInt8} (hkl : key.length = 32) :
    Calls Tryd.prog 5 #[.pointer (some ⟨s, 0, none⟩), .int .i64 0, .agg (key.map B).toArray] w fun r w' => r = refusal 0 ∧ Keeps [] w w' := by
  obtain ⟨Z, ⟨hZ, hZi, hZ1⟩, hZb⟩ : ∃ Z : List Value, (Z.length = 35 ∧ (Tryd.prog.info? 28).map (fun i => (i.zero, i.size, i.bytes)) = some (some (.agg Z.toArray), 35, 88) ∧ (∀ v ∈ Z, v.oneCell' = true)) ∧ Z = pfZC := ⟨_, pfZC_spec, rfl⟩
  unfold refusal
  rw [← hZb]
  obtain ⟨q5, hq5⟩ : ∃ q, q = w.heap.size := ⟨_, rfl⟩
  obtain ⟨q, hq0⟩ : ∃ q, q = (w.alloc (.cells (key.map B).toArray 23 (0, 0))).heap.size := ⟨_, rfl⟩
  have hq : q = w.heap.size + 1 := by rw [hq0]; simp
  have HQ0 := Lib.hid hq0
  clear hq0
  obtain ⟨w1, hw1⟩ : ∃ x, x = (w.alloc (.cells (key.map B).toArray 23 (0, 0))).alloc (.cells Z.toArray 28 (0, 0)) := ⟨_, rfl⟩
  have k1 : Keeps [] w w1 := by rw [hw1]; exact ((Keeps.refl _ _).alloc _).alloc _
  have b1 : w1.heap[q]? = some (.cells Z.toArray 28 (0, 0)) := by rw [hw1]; exact heap_new_at (by simp; omega)
  have b5 : Blk w1 q5 23 key := by rw [hw1]; exact (heap_old_at (by simp; omega)).trans (heap_new_at hq5)
  have hs1 := h.keeps k1 (by simp)
  have hd1 := hd.keeps k1 (by simp)
  have CL := sLive_any hs1 hd1
  rw [hl] at CL
  obtain ⟨SP, hSP⟩ : ∃ SP, SP = supV S.f.sup := ⟨_, rfl⟩
  have hsup := fun (wx : World) (hk : Keeps [] w1 wx) => sSuper_any (hs1.keeps hk (by simp))
  have hfw := fun (wx : World) => field_width wx S.f.sup
  rw [← hSP] at hsup hfw
  obtain ⟨n, hn⟩ : ∃ n, n = S.f.sup.width := ⟨_, rfl⟩
  rw [← hn] at h1 h2 hfw
  have hbeg := fun (wx : World) (hk : Keeps [] w1 wx) => begin_any (w := wx) n (by omega) (by omega) n.toNat (by omega) ((ht.keeps k1 (by simp) (by simp)).keeps hk (by simp) (by simp))
  obtain ⟨E, hE⟩ : ∃ E, E = emptiesL n.toNat 256 := ⟨_, rfl⟩
  rw [← hE] at hbeg
  have hqd := fun w (l : List UInt8) (h : l.length = 32) => run_equalIn_bytes w 9998 Tryd.underlying52 h h
  simp only [beq_self_eq_true] at hqd
  have HQD := Lib.hid hqd
  have CL' := Lib.hid CL
  have HSU := Lib.hid hsup
  have HFW := Lib.hid hfw
  have HBG := Lib.hid hbeg
  have HZI := Lib.hid hZi
  have HW1 := Lib.hid hw1
  have HQ := Lib.hid hq
  have HQ5 := Lib.hid hq5
  have HK1 := Lib.hid k1
  have HB1 := Lib.hid b1
  have HB5 := Lib.hid b5
  have HZ := Lib.hid (And.intro hZ hZ1)
  have HSK := Lib.hid (size_key_of hkl)
  have HSZ := Lib.hid (show (Tryd.prog.info? 28).map (·.size) = some Z.length by rw [hZ]; exact size_proof)
  clear hZi hw1 hq hq5 k1 b1 b5 hZ hZ1 hZb CL hs1 hd1 h hd hl hkl hsup hfw hbeg hn hSP ht hE hqd
  obtain ⟨X, hX, hXi⟩ : ∃ X : Array Value, X = Array.replicate 32 (.int .u8 0) ∧ (Tryd.prog.info? 52).map (fun i => (i.zero, i.size, i.bytes)) = some (some (.agg X), 32, 32) := ⟨_, rfl, info_digest⟩
  have HX := Lib.hid hX
  have HXI := Lib.hid hXi
  clear hX hXi
  go_enter Tryd.func5, Tryd.ntmps5
  go_upto_region 1 with (first | (refine wl_alloc rfl 28 rfl ?_; refine ⟨_, _, run_alloc _ HZI.out, ?_⟩; try simp only [Act.put, List.setIfInBounds_toArray, List.set_cons_zero, List.set_cons_succ, List.getElem_toArray, List.getElem_cons_zero, List.getElem_cons_succ]))
  try simp only [Value.cells]
  rw [← HW1.out, ← HQ0.out, ← HQ5.out]
  go_upto_region 4 with (first | (go_at_call 12; refine CL'.out.mono ?_; rintro r w2 ⟨rfl, hk2⟩))
  go_upto_region 8 with fail
  go_upto_region 9 with (first | (go_at_call 15; refine (HSU.out _ hk2).mono ?_; rintro r w4 ⟨rfl, hk4⟩) | (refine wl_field rfl 47 (.tmp 39) 0 rfl ?_; refine ⟨_, _, HFW.out _, ?_⟩; try simp only [Act.put, List.setIfInBounds_toArray, List.set_cons_zero, List.set_cons_succ, List.getElem_toArray, List.getElem_cons_zero, List.getElem_cons_succ]) | (go_at_call 14; refine (HBG.out _ (hk2.trans (G := []) hk4 (by simp))).mono ?_; rintro r w5 ⟨qw, rfl, hway, hqw, hk5⟩))
  have hk15 := (hk2.trans (G := []) hk4 (by simp)).trans (G := []) hk5 (by simp)
  have HR5 := Lib.hid (rangeAt_all (HB5.out.keeps hk15 (by simp)))
  have HWAY := Lib.hid hway
  have HK15 := Lib.hid hk15
  clear hk2 hk4 hk5 hk15 hway hqw
  go_upto_region 12 with (first | (refine wpList_load_mid rfl 23 (.tmp 5) rfl q5 0 (by rfl) (key.map B) _ HR5.out Tryd.underlying23 rfl HSK.out ?_; try simp only [Act.put, List.setIfInBounds_toArray, List.set_cons_zero, List.set_cons_succ, List.getElem_toArray, List.getElem_cons_zero, List.getElem_cons_succ]) | (go_at_call 16; refine down_zero.mono ?_; rintro r w6 ⟨rfl, hk6⟩))
  obtain ⟨w7, hw7⟩ : ∃ x, x = w6.alloc (.cells Z.toArray 28 (0, 0)) := ⟨_, rfl⟩
  obtain ⟨qp, hqp⟩ : ∃ x, x = w6.heap.size := ⟨_, rfl⟩
  have k67 : Keeps [] w6 w7 := by rw [hw7]; exact (Keeps.refl _ _).alloc _
  have k17 := (HK15.out.trans (G := []) hk6 (by simp)).trans (G := []) k67 (by simp)
  have bp7 : w7.heap[qp]? = some (.cells Z.toArray 28 (0, 0)) := by rw [hw7]; exact heap_new_at hqp
  have HB7 := Lib.hid ((k17.block q (lt_of_heap HB1.out) (by simp)).trans HB1.out)
  have HK7 := Lib.hid (HK1.out.trans (G := []) k17 (by simp))
  have HBP := Lib.hid bp7
  have hway7 := (HWAY.out.keeps hk6 (by simp)).keeps k67 (by simp)
  have HWY := Lib.hid hway7
  have HRS := Lib.hid hway7.sums
  have HS8 := Lib.hid (show (Tryd.prog.info? 57).map (·.size) = some (sumCells E).length by rw [sumCells_length hway7.s32, hway7.lenS]; exact size_256d)
  have HW7 := Lib.hid hw7
  have HQP := Lib.hid hqp
  have hqwlt := lt_of_heap hway7.row
  clear hw7 hqp k67 k17 bp7 hk6 hway7 HR5 HWAY HK15
  go_upto_region 18 with (first | (refine wl_alloc rfl 28 rfl ?_; refine ⟨_, _, run_alloc _ HZI.out, ?_⟩; (try simp only [Value.cells]); rw [← HW7.out, ← HQP.out]; try simp only [Act.put, List.setIfInBounds_toArray, List.set_cons_zero, List.set_cons_succ, List.getElem_toArray, List.getElem_cons_zero, List.getElem_cons_succ]))
  go_wp2_with (first | (refine wpList_load_mid rfl 57 (.tmp 107) rfl qw 1 (by rfl) (sumCells E) _ HRS.out Tryd.underlying57 rfl HS8.out ?_; try simp only [Act.put, List.setIfInBounds_toArray, List.set_cons_zero, List.set_cons_succ, List.getElem_toArray, List.getElem_cons_zero, List.getElem_cons_succ]))
  go_loopw [109] (fun iv wr => ∃ j : Nat, j ≤ 256 ∧ iv = .int .i64 j ∧ Keeps [] w7 wr) (fun iv _ => 256 - (intOf iv).toNat)
  case atStart => exact ⟨0, by omega, rfl, Keeps.refl _ _⟩
  case round =>
    obtain ⟨j, hj, rfl, hkr⟩ := hrel
    by_cases hlt : j < 256
    · obtain ⟨x, hx⟩ : ∃ x, E[j]? = some x := ⟨_, List.getElem?_eq_getElem (by rw [HWY.out.lenE]; exact hlt)⟩
      have hx32 : x.length = 32 := HWY.out.e32 x (List.mem_of_getElem? hx)
      have HIX := Lib.hid (run_index_sum HWY.out.e32 HWY.out.lenE hlt hx)
      have hrow := HWY.out.keeps hkr (by simp)
      have HRE := Lib.hid (sum_range hrow.empties HWY.out.e32 hx)
      have hqx := fun w => HQD.out w _ hx32
      have HSD := Lib.hid (dg_size_of hx32)
      have HX32 := Lib.hid hx32
      have HKR := Lib.hid hkr
      have b0 : (0 : Int) ≤ (j : Int) := by omega
      have b1 : (j : Int) < ((256 : Nat) : Int) := by omega
      obtain ⟨g15, hg15⟩ : ∃ g, g = wr.heap.size := ⟨_, rfl⟩
      obtain ⟨w8, hw8⟩ : ∃ y, y = (wr.alloc (.cells X 52 (0, 0))).setCells g15 0 (x.map B) := ⟨_, rfl⟩
      have hst := dg_run_store (w := wr.alloc (.cells X 52 (0, 0))) (q := g15) ((heap_new_at hg15).trans (by rw [HX.out])) hx32
      rw [← hw8] at hst
      have b8 : Blk w8 g15 52 x := by rw [hw8]; exact dg_store ((heap_new_at hg15).trans (by rw [HX.out])) hx32
      have k8 : Keeps [] wr w8 := by rw [hw8]; exact ((Keeps.refl _ _).alloc _).setCells (.inr (by omega)) _ _
      have HST := Lib.hid hst
      have HB8 := Lib.hid (rangeAt_all b8)
      have HR8 := Lib.hid (rangeAt_of_heap HRE.out (k8.block qw (Nat.lt_of_lt_of_le hqwlt hkr.size) (by simp)))
      have HK8 := Lib.hid (hkr.trans (G := []) k8 (by simp))
      have HG := Lib.hid hg15
      clear hx hx32 hrow hkr hw8 hst b8 k8 hg15 HRE HKR
      go_upto_region 21 with (first | (refine wl_index rfl 57 (.tmp 108) (.tmp 109) rfl ?_; refine ⟨_, _, HIX.out _, ?_⟩; try simp only [Act.put, List.setIfInBounds_toArray, List.set_cons_zero, List.set_cons_succ, List.getElem_toArray, List.getElem_cons_zero, List.getElem_cons_succ]) | (refine wl_alloc rfl 52 rfl ?_; refine ⟨_, _, run_alloc _ HXI.out, ?_⟩; (try simp only [Value.cells]); rw [← HG.out]; try simp only [Act.put, List.setIfInBounds_toArray, List.set_cons_zero, List.set_cons_succ, List.getElem_toArray, List.getElem_cons_zero, List.getElem_cons_succ]) | (refine wl_store rfl 52 (.tmp 15) (.tmp 112) rfl ?_; refine ⟨_, HST.out, ?_⟩; try simp only [Act.put, List.setIfInBounds_toArray, List.set_cons_zero, List.set_cons_succ, List.getElem_toArray, List.getElem_cons_zero, List.getElem_cons_succ]))
      refine wp_region_held_drew (S := (fun w' => w'.rangeAt g15 0 (x.map B) ∧ w'.rangeAt qw (8193 + j * 32) (x.map B))) (by kernel_rfl) ?_ (fun hHeld => ?_)
      · exact ⟨HB8.out, HR8.out⟩
      refine' wpAnyH_take (i := 0) (v := _) rfl (by kernel_rfl) (by kernel_rfl) (by kernel_rfl) (fun _ _ _ h => h) (yieldsIf_load_mid (by rfl) 52 (.tmp 15) rfl g15 0 rfl (x.map B) _ (fun _ h => h.1) Tryd.underlying52 rfl HSD.out) (by assumption) ?_
      try simp only [Act.put, List.setIfInBounds_toArray, List.set_cons_zero, List.set_cons_succ, List.getElem_toArray, List.getElem_cons_zero, List.getElem_cons_succ]
      refine' wpAnyH_take (i := 1) (v := _) rfl (by kernel_rfl) (by kernel_rfl) (by kernel_rfl) (fun _ _ _ h => h) (Or.inl ⟨by rfl, ?_⟩) (by assumption) ?_
      rotate_left 1
      · (intro w0 hSw; (try dsimp only at hSw); go_split_ands; go_simp; (try with_reducible rfl))
      try simp only [Act.put, List.setIfInBounds_toArray, List.set_cons_zero, List.set_cons_succ, List.getElem_toArray, List.getElem_cons_zero, List.getElem_cons_succ]
      refine' wpAnyH_take (i := 2) (v := _) rfl (by kernel_rfl) (by kernel_rfl) (by kernel_rfl) (fun _ _ _ h => h) (Or.inl ⟨by rfl, ?_⟩) (by assumption) ?_
      rotate_left 1
      · (intro w0 hSw; (try dsimp only at hSw); go_split_ands; go_simp; (try with_reducible rfl))
      try simp only [Act.put, List.setIfInBounds_toArray, List.set_cons_zero, List.set_cons_succ, List.getElem_toArray, List.getElem_cons_zero, List.getElem_cons_succ]
      refine' wpAnyH_take (i := 3) (v := _) rfl (by kernel_rfl) (by kernel_rfl) (by kernel_rfl) (fun _ _ _ h => h) (Or.inl ⟨by rfl, ?_⟩) (by assumption) ?_
      rotate_left 1
      · (intro w0 hSw; (try dsimp only at hSw); go_split_ands; go_simp; (try with_reducible rfl))
      try simp only [Act.put, List.setIfInBounds_toArray, List.set_cons_zero, List.set_cons_succ, List.getElem_toArray, List.getElem_cons_zero, List.getElem_cons_succ]
      refine' wpAnyH_take (i := 4) (v := _) rfl (by kernel_rfl) (by kernel_rfl) (by kernel_rfl) (fun _ _ _ h => h) (Or.inl ⟨by rfl, ?_⟩) (by assumption) ?_
      rotate_left 1
      · (intro w0 hSw; (try dsimp only at hSw); go_split_ands; go_simp; (try with_reducible rfl))
      try simp only [Act.put, List.setIfInBounds_toArray, List.set_cons_zero, List.set_cons_succ, List.getElem_toArray, List.getElem_cons_zero, List.getElem_cons_succ]
      refine' wpAnyH_take (i := 5) (v := _) rfl (by kernel_rfl) (by kernel_rfl) (by kernel_rfl) (fun _ _ _ h => h) (Or.inl ⟨by rfl, ?_⟩) (by assumption) ?_
      rotate_left 1
      · (intro w0 hSw; (try dsimp only at hSw); go_split_ands; go_simp; (try with_reducible rfl))
      try simp only [Act.put, List.setIfInBounds_toArray, List.set_cons_zero, List.set_cons_succ, List.getElem_toArray, List.getElem_cons_zero, List.getElem_cons_succ]
      refine' wpAnyH_take (i := 6) (v := _) rfl (by kernel_rfl) (by kernel_rfl) (by kernel_rfl) (fun _ _ _ h => h) (yieldsIf_load_mid (by rfl) 52 (.tmp 118) rfl qw (8193 + j * 32) rfl (x.map B) _ (fun _ h => h.2) Tryd.underlying52 rfl HSD.out) (by assumption) ?_
      try simp only [Act.put, List.setIfInBounds_toArray, List.set_cons_zero, List.set_cons_succ, List.getElem_toArray, List.getElem_cons_zero, List.getElem_cons_succ]
      refine' wpAnyH_take (i := 7) (v := _) rfl (by kernel_rfl) (by kernel_rfl) (by kernel_rfl) (fun _ _ _ h => h) (Or.inl ⟨by rfl, ?_⟩) (by assumption) ?_
      rotate_left 1
      · (intro w0 hSw; (try dsimp only at hSw); go_split_ands; go_simp; (try with_reducible rfl))
      try simp only [Act.put, List.setIfInBounds_toArray, List.set_cons_zero, List.set_cons_succ, List.getElem_toArray, List.getElem_cons_zero, List.getElem_cons_succ]
      refine wpAnyH_done (by kernel_rfl) ?_ _
      clear hHeld
      go_wp2_with fail
      go_roundw
      case rel => exact ⟨j + 1, by omega, by go_num, HK8.out.drew⟩
      case measure => simp [intOf]; omega
    · have e : j = 256 := by omega
      subst e
      have hbp := (hkr.block qp (lt_of_heap HBP.out) (by simp)).trans HBP.out
      have HRP := Lib.hid (rangeAt_all hbp)
      have HBQ := Lib.hid ((hkr.block q (lt_of_heap HB7.out) (by simp)).trans HB7.out)
      have HKF := Lib.hid (HK7.out.trans (G := []) hkr (by simp))
      clear hbp hkr
      go_wp2_with (first | (refine wpList_load_mid rfl 28 (.tmp 12) rfl qp 0 (by rfl) Z _ HRP.out Tryd.underlying28 rfl HSZ.out ?_; try simp only [Act.put, List.setIfInBounds_toArray, List.set_cons_zero, List.set_cons_succ, List.getElem_toArray, List.getElem_cons_zero, List.getElem_cons_succ]) | (refine wl_store rfl 28 (.tmp 6) (.tmp 139) rfl ?_; refine ⟨_, run_store_pf HBQ.out HZ.out.1 HZ.out.1 HZ.out.2, ?_⟩; try simp only [Act.put, List.setIfInBounds_toArray, List.set_cons_zero, List.set_cons_succ, List.getElem_toArray, List.getElem_cons_zero, List.getElem_cons_succ]))
      refine bodyPost_ret (results_row2 (cs := Z) rfl rfl rfl (rangeAt_all (store_all HBQ.out rfl)) Tryd.underlying28 rfl HSZ.out) rfl ⟨rfl, ?_⟩
      exact HKF.out.setCells (.inr (by rw [HQ.out]; omega)) _ _
end Go.Proofs.YtojlojdkhegbkaaDoor

/-
  The walk of ledgerlaw12.ProofRefuses.
-/
namespace Go.Proofs.YtojlojdkhegbkaaDoor
set_option linter.unusedVariables false
set_option linter.unusedSimpArgs false
open Go.RowKit

/-! The disk loses its power, and crashes. -/
theorem arm_d {w : World} {b : Nat} {d : D} {F : List Nat} (h : DiskAt w b d F) (hd : d.dead = false) :
    Calls Tryd.prog 9 #[.pointer (some ⟨b, 0, none⟩), .int .i64 1] w fun e w' => e = .returned (.tuple #[]) ∧ Keeps F w w' ∧ DiskAt w' b { d with armed := 1 } F := by
  obtain ⟨bp, qv, bm, hI, rfl⟩ := h
  obtain ⟨c0, c1, c2, c3, c4, c5, c6, c7, c8, c9⟩ := hI.cells
  rw [hd] at c8
  refine (dArm_any c7 c8 (hI.free 7)).mono ?_
  rintro e w' ⟨rfl, hw⟩
  simp only [Bool.false_eq_true, if_false] at hw
  subst hw
  refine ⟨rfl, (Keeps.refl _ _).setCell (.inl (by simp)) _, bp, qv, bm, hI.setc { d with armed := 1 } 7 _ rfl rfl ?_ rfl, rfl⟩
  obtain ⟨o1, o2, o3, o4, o5, o6⟩ := hI.ok
  exact ⟨o1, o2, o3, o4, by simp only; omega, by simp only; omega⟩
theorem gone_d {w : World} {b : Nat} {d : D} {F : List Nat} (h : DiskAt w b d F) (hd : d.dead = false) (ha : d.armed = 1) :
    Calls Tryd.prog 10 #[.pointer (some ⟨b, 0, none⟩)] w fun e w' => e = .returned (.int .i64 2) ∧ Keeps F w w' ∧ DiskAt w' b d.act F := by
  obtain ⟨bp, qv, bm, hI, rfl⟩ := h
  refine (dSync_gone hI hd ha).mono ?_
  rintro e w' ⟨rfl, hI', hk⟩
  exact ⟨rfl, hk.mono (by simp), bp, qv, bm, hI', rfl⟩
def crashD (d : D) : D := { d with img := crashed d.img d.q [], q := [], armed := 0, dead := false, epoch := wrap64 (d.epoch + 1) }
theorem crash_d {w : World} {b : Nat} {d : D} {F : List Nat} (h : DiskAt w b d F) :
    Calls Tryd.prog 11 #[.pointer (some ⟨b, 0, none⟩), .slice none 0 0] w fun e w' => ∃ n : Nat, e = .returned (.int .i64 n) ∧ Keeps F w w' ∧ ∃ F', DiskAt w' b (crashD d) F' ∧ ∀ k ∈ F', k ∈ F := by
  obtain ⟨bp, qv, bm, hI, rfl⟩ := h
  refine (dCrash_ok hI (BytesAt_nil w) (fun k hk => by simp [Value.elemBlock] at hk)).mono ?_
  rintro e w' ⟨rfl, hI', hk⟩
  exact ⟨_, rfl, hk.mono (by simp), _, ⟨bp, _, bm, hI', rfl⟩, fun k hk => by simp [Value.ownBlock] at hk; rcases hk with h | h | h <;> simp [h]⟩
theorem put_pf (w : World) {Z : List Value} : ((w.alloc (.cells Z.toArray 28 (0, 0))).setCells w.heap.size 0 Z).heap[w.heap.size]? = some (.cells Z.toArray 28 (0, 0)) ∧ Keeps [] w ((w.alloc (.cells Z.toArray 28 (0, 0))).setCells w.heap.size 0 Z) :=
  ⟨store_all (heap_new_at rfl) rfl, ((Keeps.refl _ _).alloc _).setCells (.inr (Nat.le_refl _)) _ _⟩
set_option maxRecDepth 100000 in
set_option maxHeartbeats 400000 in
theorem refuses_unfit {w : World} {width room root : Int} {key : List UInt8} (hn : ¬ (1 ≤ width ∧ width ≤ 32 ∧ 1 ≤ room ∧ room ≤ 4096)) :
    Calls Tryd.prog 3 #[.int .i64 width, .int .i64 room, .int .i64 root, .agg (key.map B).toArray] w fun e w' => e = .returned (.bool true) ∧ Keeps [] w w' := by
  have hf := fun (wx : World) => cFits_any (w := wx) width room
  rw [decide_eq_false hn] at hf
  have HF := Lib.hid hf
  have HK := Lib.hid ((Keeps.refl [] w).alloc (.cells (key.map B).toArray 23 (0, 0)))
  clear hf hn
  go_enter Tryd.func3, Tryd.ntmps3
  go_wp2_with (first | (go_at_call 4; refine (HF.out _).mono ?_; rintro e w1 ⟨rfl, rfl⟩))
  go_ret
  exact ⟨rfl, HK.out⟩
theorem stage_3 {w : World} {s b : Nat} {S : St} {d : D} {F G : List Nat} {v : Value} {load : List UInt8} (h : StoreOn w s b S d F G) (hl : liveE d S.f = 0) (hv : BytesAt w v load)
    (hll : load.length ≤ 246) (hroom : S.f.sup.mark + S.C.kept.length < d.n) :
    Calls Tryd.prog 8 #[.pointer (some ⟨s, 0, none⟩), .int .i64 3, v] w fun e w' => e = .returned (.tuple #[.int .i64 (S.f.sup.mark + S.C.kept.length), .int .i64 0]) ∧
      ∃ eb lv G', StoreOn w' s b (S.stage ⟨eb, S.f.sup.mark + S.C.kept.length, 3, lv, load⟩) d F G' ∧ Keeps G w w' ∧ From w G G' := by
  obtain ⟨hd, ⟨bf, c, bm, sv, hs, rfl⟩, hap⟩ := h
  refine (sStage_3 hs hd hl hv hll hroom).mono ?_
  rintro e w' ⟨rfl, eb, lv, sv', hs', hk, hf⟩
  refine ⟨rfl, eb, lv, _, ⟨hd.keeps hk hap, ⟨bf, c, bm, sv', hs', rfl⟩, fun k hk' hg => ?_⟩, hk, hf⟩
  rcases hf k hg with h1 | h1
  · exact hap k hk' h1
  · have := hd.lt k hk'
    omega
theorem StoreOn.keeps {w w' : World} {s b : Nat} {S : St} {d : D} {F G H : List Nat} (h : StoreOn w s b S d F G) (hk : Keeps H w w') (h1 : ∀ k ∈ F, k ∉ H) (h2 : ∀ k ∈ G, k ∉ H) : StoreOn w' s b S d F G := by
  obtain ⟨hd, ⟨bf, c, bm, sv, hs, rfl⟩, hap⟩ := h
  exact ⟨hd.keeps hk h1, ⟨bf, c, bm, sv, hs.keeps hk h2, rfl⟩, hap⟩
theorem StoreOn.disk' {w w' : World} {s b : Nat} {S : St} {d d' : D} {F F' G : List Nat} (h : StoreOn w s b S d F G) (hk : Keeps F w w') (hd : DiskAt w' b d' F') (hf : ∀ k ∈ F', k ∉ G) : StoreOn w' s b S d' F' G := by
  obtain ⟨_, ⟨bf, c, bm, sv, hs, rfl⟩, hap⟩ := h
  exact ⟨hd, ⟨bf, c, bm, sv, hs.keeps hk (fun k hk hF => hap k hF hk), rfl⟩, hf⟩
theorem StoreOn.lt {w : World} {s b : Nat} {S : St} {d : D} {F G : List Nat} (h : StoreOn w s b S d F G) : ∀ k, k ∈ F ∨ k ∈ G → k < w.heap.size := by
  obtain ⟨hd, ⟨bf, c, bm, sv, hs, rfl⟩, hap⟩ := h
  exact fun k hk => hk.elim (hd.lt k) (hs.lt k)
theorem onProve_3 {w : World} {s b : Nat} {S : St} {d : D} {F G : List Nat} {e : Ent} (h : StoreOn w s b S d F G) (hl : liveE d S.f = 0) (he : e ∈ S.C.kept) (hll : e.load.length ≤ 246) (h3 : e.kind = 3)
    (h1 : 1 ≤ S.f.sup.width) (h2 : S.f.sup.width ≤ 32) (ht : Tabs w) {key : List UInt8} (hkl : key.length = 32) :
    Calls Tryd.prog 5 #[.pointer (some ⟨s, 0, none⟩), .int .i64 e.key, .agg (key.map B).toArray] w fun r w' => r = refusal 4 ∧
      StoreOn w' s b { S with C := { S.C with hits := wrap64 (S.C.hits + 1) } } d F G ∧ Keeps G w w' := by
  obtain ⟨hd, ⟨bf, c, bm, sv, hs, rfl⟩, hap⟩ := h
  refine (prove_3 hs hd hl he hll h3 h1 h2 ht hkl).mono ?_
  rintro r w' ⟨rfl, hs', hk⟩
  have hc : c ∈ stF s bf c bm sv S := mem_stF.2 (.inr (.inr (.inl (by simp [caF]))))
  have hk' := hk.mono (G := stF s bf c bm sv S) (fun k hk => .inl (by simp at hk; subst hk; exact hc))
  exact ⟨rfl, ⟨hd.keeps hk' hap, ⟨bf, c, bm, sv, hs', rfl⟩, hap⟩, hk'⟩
theorem onProve_zero {w : World} {s b : Nat} {S : St} {d : D} {F G : List Nat} (h : StoreOn w s b S d F G) (hl : liveE d S.f = 0)
    (h1 : 1 ≤ S.f.sup.width) (h2 : S.f.sup.width ≤ 32) (ht : Tabs w) {key : List UInt8} (hkl : key.length = 32) :
    Calls Tryd.prog 5 #[.pointer (some ⟨s, 0, none⟩), .int .i64 0, .agg (key.map B).toArray] w fun r w' => r = refusal 0 ∧ Keeps [] w w' := by
  obtain ⟨hd, ⟨bf, c, bm, sv, hs, rfl⟩, hap⟩ := h
  exact prove_zero hs hd hl h1 h2 ht hkl
theorem onProve_dead {w : World} {s b : Nat} {S : St} {d : D} {F G : List Nat} (h : StoreOn w s b S d F G) {E : Int} (hl : liveE d S.f = E) (hE : ¬ E = 0) (root : Int) (key : List UInt8) :
    Calls Tryd.prog 5 #[.pointer (some ⟨s, 0, none⟩), .int .i64 root, .agg (key.map B).toArray] w fun r w' => r = refusal E ∧ Keeps [] w w' := by
  obtain ⟨hd, ⟨bf, c, bm, sv, hs, rfl⟩, hap⟩ := h
  exact prove_dead hs hd hl hE root key
/-- A block that holds api.Proof{}. -/
def PB (w : World) (q : Nat) (Z : List Value) : Prop := w.heap[q]? = some (.cells Z.toArray 28 (0, 0))
theorem PB.keeps {w w' : World} {q : Nat} {Z : List Value} {F : List Nat} (h : PB w q Z) (hk : Keeps F w w') (hq : q ∉ F) : PB w' q Z := (hk.block q (lt_of_heap h) hq).trans h
theorem PB.range {w : World} {q : Nat} {Z : List Value} (h : PB w q Z) : w.rangeAt q 0 Z := rangeAt_all h
theorem PB.lt {w : World} {q : Nat} {Z : List Value} (h : PB w q Z) : q < w.heap.size := lt_of_heap h
set_option maxRecDepth 100000 in
set_option maxHeartbeats 6400000 in
theorem refuses_fit {w : World} {width room : Nat} {root : Int} {key : List UInt8} (h1 : 1 ≤ width) (h2 : width ≤ 32) (h3 : 1 ≤ room) (h4 : room ≤ 4096) (ht : Tabs w) (hkl : key.length = 32) :
    Calls Tryd.prog 3 #[.int .i64 width, .int .i64 room, .int .i64 root, .agg (key.map B).toArray] w fun e w' => e = .returned (.bool true) ∧ Keeps [] w w' := by
  obtain ⟨Z, ⟨hZ, hZi, hZ1⟩, hZb⟩ : ∃ Z : List Value, (Z.length = 35 ∧ (Tryd.prog.info? 28).map (fun i => (i.zero, i.size, i.bytes)) = some (some (.agg Z.toArray), 35, 88) ∧ (∀ v ∈ Z, v.oneCell' = true)) ∧ Z = pfZC := ⟨_, pfZC_spec, rfl⟩
  have hbld : ∀ w, (Instr.build 28 #[]).run Tryd.prog w = .ok (.agg Z.toArray) w := fun w => by rw [hZb]; exact run_build_pfZ w
  have hsame : ∀ wx, Calls Tryd.prog 6 #[.agg Z.toArray, .agg Z.toArray] wx fun e w' => e = .returned (.bool true) ∧ Keeps [] wx w' := fun wx => by rw [hZb]; exact sameProof_true (pfZ_in wx) (pfZ_in wx)
  have hpn : ∀ wx, Calls Tryd.prog 5 #[.pointer none, .int .i64 root, .agg (key.map B).toArray] wx fun r w' => r = .returned (.tuple #[.agg Z.toArray, .int .i64 1]) ∧ Keeps [] wx w' := fun wx => by rw [hZb]; exact prove_nil root key
  have href : ∀ e, refusal e = .returned (.tuple #[.agg Z.toArray, .int .i64 e]) := fun e => by rw [hZb]; rfl
  have hfit := fun (wx : World) => cFits_any (w := wx) width room
  rw [decide_eq_true (by omega)] at hfit
  obtain ⟨q7, hq7⟩ : ∃ q, q = w.heap.size := ⟨_, rfl⟩
  obtain ⟨w1, hw1⟩ : ∃ x, x = w.alloc (.cells (key.map B).toArray 23 (0, 0)) := ⟨_, rfl⟩
  have k1 : Keeps [] w w1 := by rw [hw1]; exact (Keeps.refl _ _).alloc _
  have b7 : Blk w1 q7 23 key := by rw [hw1]; exact heap_new_at hq7
  have HBL := Lib.hid hbld
  have HSA := Lib.hid hsame
  have HPN := Lib.hid hpn
  have HRF := Lib.hid href
  have HFIT := Lib.hid hfit
  have HZI := Lib.hid hZi
  have HZ := Lib.hid (And.intro hZ hZ1)
  have HSZ := Lib.hid (show (Tryd.prog.info? 28).map (·.size) = some Z.length by rw [hZ]; exact size_proof)
  have HKL := Lib.hid hkl
  have HSK := Lib.hid (size_key_of hkl)
  have HW1 := Lib.hid hw1
  have HQ7 := Lib.hid hq7
  have HK1 := Lib.hid k1
  have HB7 := Lib.hid b7
  have HT := Lib.hid ht
  have HWR := Lib.hid (And.intro h1 (And.intro h2 (And.intro h3 h4)))
  clear hbld hsame hpn href hfit hZ hZi hZ1 hZb hkl hw1 hq7 k1 b7 ht h1 h2 h3 h4
  go_enter Tryd.func3, Tryd.ntmps3
  go_upto_region 3 with (first | (go_at_call 4; refine (HFIT.out _).mono ?_; rintro e wy ⟨rfl, rfl⟩))
  rw [← HW1.out, ← HQ7.out]
  go_upto_region 4 with (first | (refine wpList_load_mid rfl 23 (.tmp 7) rfl q7 0 (by rfl) (key.map B) _ (rangeAt_all HB7.out) Tryd.underlying23 rfl HSK.out ?_; try simp only [Act.put, List.setIfInBounds_toArray, List.set_cons_zero, List.set_cons_succ, List.getElem_toArray, List.getElem_cons_zero, List.getElem_cons_succ]) | (go_at_call 5; refine (HPN.out _).mono ?_; rintro r w2 ⟨rfl, hk2⟩) | (refine wl_alloc rfl 28 rfl ?_; refine ⟨_, _, run_alloc _ HZI.out, ?_⟩; (try simp only [Value.cells]); try simp only [Act.put, List.setIfInBounds_toArray, List.set_cons_zero, List.set_cons_succ, List.getElem_toArray, List.getElem_cons_zero, List.getElem_cons_succ]) | (refine wl_store rfl 28 (.tmp 9) (.tmp 33) rfl ?_; refine ⟨_, run_store_pf (heap_new_at rfl) HZ.out.1 HZ.out.1 HZ.out.2, ?_⟩; try simp only [Act.put, List.setIfInBounds_toArray, List.set_cons_zero, List.set_cons_succ, List.getElem_toArray, List.getElem_cons_zero, List.getElem_cons_succ]))
  obtain ⟨q9, hq9⟩ : ∃ x, x = w2.heap.size := ⟨_, rfl⟩
  obtain ⟨w3, hw3⟩ : ∃ x, x = (w2.alloc (.cells Z.toArray 28 (0, 0))).setCells w2.heap.size 0 Z := ⟨_, rfl⟩
  obtain ⟨hpb, hkp⟩ := put_pf w2 (Z := Z)
  rw [← hw3, ← hq9] at hpb
  rw [← hw3] at hkp
  rw [← hw3, ← hq9]
  have H9 := Lib.hid (show PB w3 q9 Z from hpb)
  have HK3 := Lib.hid ((HK1.out.trans (G := []) hk2 (by simp)).trans (G := []) hkp (by simp))
  have HK13 := Lib.hid (hk2.trans (G := []) hkp (by simp))
  have B73 := Lib.hid (HB7.out.keeps HK13.out (by simp))
  clear hk2 hpb hkp hw3 hq9
  go_upto_region 6 with (first | (refine Go.BigFrame.wpList_want (by rfl) fun K hK => wp_load_mid 28 (.tmp 9) rfl q9 0 (by rfl) Z _ H9.out.range Tryd.underlying28 rfl HSZ.out (hK _ _ ?_); try simp only [Act.put, List.setIfInBounds_toArray, List.set_cons_zero, List.set_cons_succ, List.getElem_toArray, List.getElem_cons_zero, List.getElem_cons_succ]) | (refine Go.BigFrame.wpList_want (by rfl) fun K hK => wp_build 28 #[] #[] rfl (by simp) ⟨_, _, HBL.out _, hK _ _ ?_⟩; try simp only [Act.put, List.setIfInBounds_toArray, List.set_cons_zero, List.set_cons_succ, List.getElem_toArray, List.getElem_cons_zero, List.getElem_cons_succ]) | (go_at_call 6; refine (HSA.out _).mono ?_; rintro e w4 ⟨rfl, hk⟩))
  have CF := Lib.hid (cFresh_ok (w := w4) (n := 8) (width := width) (room := room) (by omega) (by omega) HWR.out.1 HWR.out.2.1 HWR.out.2.2.2)
  have HK4 := Lib.hid (HK3.out.trans (G := []) hk (by simp))
  have B74 := Lib.hid (B73.out.keeps hk (by simp))
  have H94 := Lib.hid (H9.out.keeps hk (by simp))
  clear hk H9 B73 HK3 HK13 HB7
  go_upto_region 7 with (first | (go_at_call 7; refine CF.out.mono ?_; rintro e w5 ⟨b, st, F, G, rfl, hon, hF, hG, hk5⟩))
  have B75 := Lib.hid (B74.out.keeps hk5 (by simp))
  have HK5 := Lib.hid (HK4.out.trans (G := []) hk5 (by simp))
  have HFG := Lib.hid (show ∀ k, k ∈ F ∨ k ∈ G → w.heap.size < k from fun k hk => by
    have h1 : q7 < w4.heap.size := lt_of_heap B74.out
    rw [HQ7.out] at h1
    rcases hk with hk | hk
    · exact Nat.lt_of_lt_of_le h1 (hF k hk)
    · exact Nat.lt_of_lt_of_le h1 (hG k hk))
  -- behind fresh: printed by gen_refuses.py
  obtain ⟨d0, hd0⟩ : ∃ d, d = openD (fmtD (D.new 8) width) := ⟨_, rfl⟩
  obtain ⟨S0, hS0⟩ : ∃ S : St, S = ⟨⟨supB width 8, 2, 1⟩, ⟨room, [], [], 0, 0, 0⟩⟩ := ⟨_, rfl⟩
  have hd0' : d0.n = 8 ∧ d0.dead = false ∧ d0.epoch = 1 := by
    obtain ⟨f1, f2, f3, f4, f5⟩ := fmt_new (n := 8) (by omega) (by omega) HWR.out.1 HWR.out.2.1
    rw [hd0]
    refine ⟨f3, f1.dead, ?_⟩
    show wrap64 ((fmtD (D.new 8) width).epoch + 1) = 1
    rw [f5]
    simp [wrap64]
  have hS0' : S0.f.sup.mark = 2 ∧ S0.C.kept = [] ∧ S0.f.sup.width = width ∧ S0.f.mine = 1 := by rw [hS0]; exact ⟨rfl, rfl, rfl, rfl⟩
  have hon0 : StoreOn w5 st b S0 d0 F G := by rw [hS0, hd0]; exact hon
  have hlive : liveE d0 S0.f = 0 := by
    unfold liveE
    rw [if_neg (by rw [hd0'.2.2, hS0'.2.2.2]; simp), if_neg (by rw [hd0'.2.1]; simp)]
  obtain ⟨w6, hw6⟩ : ∃ x, x = w5.alloc (.cells #[.int .u8 1, .int .u8 2, .int .u8 3] 5 (0, 0)) := ⟨_, rfl⟩
  have k56 : Keeps [] w5 w6 := by rw [hw6]; exact (Keeps.refl _ _).alloc _
  have hx6 : BytesAt w6 (.slice (some ⟨w5.heap.size, 0, none⟩) 3 3) [1, 2, 3] := .inr ⟨_, 0, 3, rfl, by simp, by simp [maxLen], by rw [hw6]; simp, rangeAt_all (t := 5) (fr := (0, 0)) (by rw [hw6]; exact heap_new_at rfl)⟩
  have hbs : (Instr.buildSlice 25 3 #[(0, .int .u8 1), (1, .int .u8 2), (2, .int .u8 3)]).run Tryd.prog w5 = .ok (.slice (some ⟨w5.heap.size, 0, none⟩) 3 3) w6 := by
    obtain ⟨i, hi, h1, h2, h3⟩ := info_parts info_u8
    rw [hw6]
    refine run_buildSlice w5 _ _ _ _ _ i (.int .u8 0) Tryd.underlying25 hi h1 (by rw [h2]; omega) (by rw [h2]; omega) ?_
    rw [h2]
    kernel_rfl
  have hm2 : S0.f.sup.mark + (S0.C.kept.length : Int) = 2 := by rw [hS0'.1, hS0'.2.1]; rfl
  have hstage := stage_3 (hon0.keeps k56 (by simp) (by simp)) hlive hx6 (by simp) (by rw [hm2, hd0'.1]; decide)
  rw [hm2] at hstage
  have HSTG := Lib.hid hstage
  have HBS := Lib.hid hbs
  have HD0 := Lib.hid hd0'
  have HS0 := Lib.hid hS0'
  have HLV := Lib.hid hlive
  have HON0 := Lib.hid hon0
  have HK6 := Lib.hid (HK5.out.trans (G := []) k56 (by simp))
  have B76 := Lib.hid (B75.out.keeps k56 (by simp))
  clear hd0 hS0 hd0' hS0' hon hon0 hlive hw6 k56 hx6 hbs hm2 hstage hF hG hk5 CF B74 B75 HK4 HK5 H94
  go_upto_region 10 with (first | (refine wl_buildSlice rfl 25 3 #[(0, .const (.int .u8 1)), (1, .const (.int .u8 2)), (2, .const (.int .u8 3))] #[(0, .int .u8 1), (1, .int .u8 2), (2, .int .u8 3)] rfl (by simp [Act.eval]) ?_; refine ⟨_, _, HBS.out, ?_⟩; try simp only [Act.put, List.setIfInBounds_toArray, List.set_cons_zero, List.set_cons_succ, List.getElem_toArray, List.getElem_cons_zero, List.getElem_cons_succ]) | (go_at_call 8; refine HSTG.out.mono ?_; rintro e w7 ⟨rfl, eb, lv, G', hon7, hk7, hf7⟩))
  have hG' : ∀ k, k ∈ F ∨ k ∈ G' → w.heap.size < k := fun k hk => by
    rcases hk with hk | hk
    · exact HFG.out k (.inl hk)
    · rcases hf7 k hk with h | h
      · exact HFG.out k (.inr h)
      · have h1 : q7 < w6.heap.size := lt_of_heap B76.out
        have := HQ7.out
        omega
  have B77 := Lib.hid (B76.out.keeps hk7 (fun h => by have := HFG.out _ (.inr h); have := HQ7.out; omega))
  have HK7 := Lib.hid (HK6.out.trans (G := G) hk7 (fun k hk => .inr (Nat.le_of_lt (HFG.out k (.inr hk)))))
  obtain ⟨en, hen⟩ : ∃ en : Ent, en = ⟨eb, 2, 3, lv, [1, 2, 3]⟩ := ⟨_, rfl⟩
  obtain ⟨S1, hS1⟩ : ∃ S, S = S0.stage en := ⟨_, rfl⟩
  rw [← hen, ← hS1] at hon7
  have hp3 := onProve_3 (e := en) hon7 (show liveE d0 S1.f = 0 by rw [hS1]; exact HLV.out) (by rw [hS1]; simp [St.stage]) (by rw [hen]; simp) (by rw [hen]) (by rw [hS1]; show 1 ≤ S0.f.sup.width; rw [HS0.out.2.2.1]; have := HWR.out.1; omega) (by rw [hS1]; show S0.f.sup.width ≤ 32; rw [HS0.out.2.2.1]; have := HWR.out.2.1; omega) (HT.out.keeps HK7.out (by simp) (by simp)) HKL.out
  rw [show en.key = 2 by rw [hen], HRF.out] at hp3
  obtain ⟨S2, hS2⟩ : ∃ S : St, S = { S1 with C := { S1.C with hits := wrap64 (S1.C.hits + 1) } } := ⟨_, rfl⟩
  rw [← hS2] at hp3
  have HS2 := Lib.hid (show S2.f = S0.f by rw [hS2, hS1]; rfl)
  have HP3 := Lib.hid hp3
  have HG' := Lib.hid hG'
  have HLT7 := Lib.hid hon7.lt
  clear hG' hen hS1 hS2 hp3 hon7 hk7 hf7 HSTG HBS B76 HK6 HFG
  go_upto_region 11 with (first | (refine wpList_load_mid rfl 23 (.tmp 7) rfl q7 0 (by rfl) (key.map B) _ (rangeAt_all B77.out) Tryd.underlying23 rfl HSK.out ?_; try simp only [Act.put, List.setIfInBounds_toArray, List.set_cons_zero, List.set_cons_succ, List.getElem_toArray, List.getElem_cons_zero, List.getElem_cons_succ]) | (go_at_call 5; refine HP3.out.mono ?_; rintro r w8 ⟨rfl, hon8, hk8⟩) | (refine wl_alloc rfl 28 rfl ?_; refine ⟨_, _, run_alloc _ HZI.out, ?_⟩; (try simp only [Value.cells]); try simp only [Act.put, List.setIfInBounds_toArray, List.set_cons_zero, List.set_cons_succ, List.getElem_toArray, List.getElem_cons_zero, List.getElem_cons_succ]) | (refine wl_store rfl 28 (.tmp 15) (.tmp 62) rfl ?_; refine ⟨_, run_store_pf (heap_new_at rfl) HZ.out.1 HZ.out.1 HZ.out.2, ?_⟩; try simp only [Act.put, List.setIfInBounds_toArray, List.set_cons_zero, List.set_cons_succ, List.getElem_toArray, List.getElem_cons_zero, List.getElem_cons_succ]))
  have hlt8 : ∀ k, k ∈ F ∨ k ∈ G' → k < w8.heap.size := hon8.lt
  obtain ⟨q15, hq15⟩ : ∃ x, x = w8.heap.size := ⟨_, rfl⟩
  obtain ⟨w9, hw9⟩ : ∃ x, x = (w8.alloc (.cells Z.toArray 28 (0, 0))).setCells w8.heap.size 0 Z := ⟨_, rfl⟩
  obtain ⟨hpb, hkp⟩ := put_pf w8 (Z := Z)
  rw [← hw9, ← hq15] at hpb
  rw [← hw9] at hkp
  rw [← hw9, ← hq15]
  have H15 := Lib.hid (show PB w9 q15 Z from hpb)
  have hk9 := hk8.trans (G := []) hkp (by simp)
  have HON9 := Lib.hid (hon8.keeps hkp (by simp) (by simp))
  have B79 := Lib.hid (B77.out.keeps hk9 (fun h => by have := HG'.out _ (.inr h); have := HQ7.out; omega))
  have HK9 := Lib.hid (HK7.out.trans (G := G') hk9 (fun k hk => .inr (Nat.le_of_lt (HG'.out k (.inr hk)))))
  clear hon8 hk8 hk9 hpb hkp hw9 hq15 hlt8 HP3 B77 HK7 HLT7
  go_upto_region 13 with (first | (refine Go.BigFrame.wpList_want (by rfl) fun K hK => wp_load_mid 28 (.tmp 15) rfl q15 0 (by rfl) Z _ H15.out.range Tryd.underlying28 rfl HSZ.out (hK _ _ ?_); try simp only [Act.put, List.setIfInBounds_toArray, List.set_cons_zero, List.set_cons_succ, List.getElem_toArray, List.getElem_cons_zero, List.getElem_cons_succ]) | (refine Go.BigFrame.wpList_want (by rfl) fun K hK => wp_build 28 #[] #[] rfl (by simp) ⟨_, _, HBL.out _, hK _ _ ?_⟩; try simp only [Act.put, List.setIfInBounds_toArray, List.set_cons_zero, List.set_cons_succ, List.getElem_toArray, List.getElem_cons_zero, List.getElem_cons_succ]) | (go_at_call 6; refine (HSA.out _).mono ?_; rintro e w10 ⟨rfl, hk⟩))
  have HON10 := Lib.hid (HON9.out.keeps hk (by simp) (by simp))
  have B710 := Lib.hid (B79.out.keeps hk (by simp))
  have HK10 := Lib.hid (HK9.out.trans (G := []) hk (by simp))
  have hp0 := onProve_zero HON10.out (by rw [HS2.out]; exact HLV.out) (by rw [HS2.out, HS0.out.2.2.1]; have := HWR.out.1; omega) (by rw [HS2.out, HS0.out.2.2.1]; have := HWR.out.2.1; omega) (HT.out.keeps HK10.out (by simp) (by simp)) HKL.out
  rw [HRF.out] at hp0
  have HP0 := Lib.hid hp0
  clear hk hp0 H15 HON9 B79 HK9
  go_upto_region 14 with (first | (refine wpList_load_mid rfl 23 (.tmp 7) rfl q7 0 (by rfl) (key.map B) _ (rangeAt_all B710.out) Tryd.underlying23 rfl HSK.out ?_; try simp only [Act.put, List.setIfInBounds_toArray, List.set_cons_zero, List.set_cons_succ, List.getElem_toArray, List.getElem_cons_zero, List.getElem_cons_succ]) | (go_at_call 5; refine HP0.out.mono ?_; rintro r w11 ⟨rfl, hk11⟩) | (refine wl_alloc rfl 28 rfl ?_; refine ⟨_, _, run_alloc _ HZI.out, ?_⟩; (try simp only [Value.cells]); try simp only [Act.put, List.setIfInBounds_toArray, List.set_cons_zero, List.set_cons_succ, List.getElem_toArray, List.getElem_cons_zero, List.getElem_cons_succ]) | (refine wl_store rfl 28 (.tmp 17) (.tmp 80) rfl ?_; refine ⟨_, run_store_pf (heap_new_at rfl) HZ.out.1 HZ.out.1 HZ.out.2, ?_⟩; try simp only [Act.put, List.setIfInBounds_toArray, List.set_cons_zero, List.set_cons_succ, List.getElem_toArray, List.getElem_cons_zero, List.getElem_cons_succ]))
  obtain ⟨q17, hq17⟩ : ∃ x, x = w11.heap.size := ⟨_, rfl⟩
  obtain ⟨w12, hw12⟩ : ∃ x, x = (w11.alloc (.cells Z.toArray 28 (0, 0))).setCells w11.heap.size 0 Z := ⟨_, rfl⟩
  obtain ⟨hpb, hkp⟩ := put_pf w11 (Z := Z)
  rw [← hw12, ← hq17] at hpb
  rw [← hw12] at hkp
  rw [← hw12, ← hq17]
  have H17 := Lib.hid (show PB w12 q17 Z from hpb)
  have hk12 := hk11.trans (G := []) hkp (by simp)
  have HON12 := Lib.hid (HON10.out.keeps hk12 (by simp) (by simp))
  have B712 := Lib.hid (B710.out.keeps hk12 (by simp))
  have HK12 := Lib.hid (HK10.out.trans (G := []) hk12 (by simp))
  clear hk11 hk12 hpb hkp hw12 hq17 HP0 HON10 B710 HK10
  go_upto_region 16 with (first | (refine Go.BigFrame.wpList_want (by rfl) fun K hK => wp_load_mid 28 (.tmp 17) rfl q17 0 (by rfl) Z _ H17.out.range Tryd.underlying28 rfl HSZ.out (hK _ _ ?_); try simp only [Act.put, List.setIfInBounds_toArray, List.set_cons_zero, List.set_cons_succ, List.getElem_toArray, List.getElem_cons_zero, List.getElem_cons_succ]) | (refine Go.BigFrame.wpList_want (by rfl) fun K hK => wp_build 28 #[] #[] rfl (by simp) ⟨_, _, HBL.out _, hK _ _ ?_⟩; try simp only [Act.put, List.setIfInBounds_toArray, List.set_cons_zero, List.set_cons_succ, List.getElem_toArray, List.getElem_cons_zero, List.getElem_cons_succ]) | (go_at_call 6; refine (HSA.out _).mono ?_; rintro e w13 ⟨rfl, hk⟩))
  have HON13 := Lib.hid (HON12.out.keeps hk (by simp) (by simp))
  have B713 := Lib.hid (B712.out.keeps hk (by simp))
  have HK13 := Lib.hid (HK12.out.trans (G := []) hk (by simp))
  have CARM := Lib.hid (arm_d HON13.out.disk HD0.out.2.1)
  clear hk H17 HON12 B712 HK12
  go_upto_region 17 with (first | (go_at_call 9; refine CARM.out.mono ?_; rintro e w14 ⟨rfl, hk14, hd14⟩))
  have HON14 := Lib.hid (HON13.out.disk' hk14 hd14 HON13.out.apart)
  have B714 := Lib.hid (B713.out.keeps hk14 (fun h => by have := HG'.out _ (.inl h); have := HQ7.out; omega))
  have HK14 := Lib.hid (HK13.out.trans (G := F) hk14 (fun k hk => .inr (Nat.le_of_lt (HG'.out k (.inl hk)))))
  have CGO := Lib.hid (gone_d HON14.out.disk HD0.out.2.1 rfl)
  clear hk14 hd14 CARM HON13 B713 HK13
  go_upto_region 18 with (first | (go_at_call 10; refine CGO.out.mono ?_; rintro e w15 ⟨rfl, hk15, hd15⟩))
  obtain ⟨d2, hd2⟩ : ∃ d2 : D, d2 = D.act { d0 with armed := 1 } := ⟨_, rfl⟩
  rw [← hd2] at hd15
  have hd2' : d2.dead = true ∧ d2.epoch = 1 := by rw [hd2]; simp only [D.act]; exact ⟨rfl, HD0.out.2.2⟩
  have HON15 := Lib.hid (HON14.out.disk' hk15 hd15 HON14.out.apart)
  have B715 := Lib.hid (B714.out.keeps hk15 (fun h => by have := HG'.out _ (.inl h); have := HQ7.out; omega))
  have HK15 := Lib.hid (HK14.out.trans (G := F) hk15 (fun k hk => .inr (Nat.le_of_lt (HG'.out k (.inl hk)))))
  have HD2 := Lib.hid hd2'
  have HL2 := Lib.hid (show liveE d2 S2.f = 2 by
    unfold liveE
    rw [if_neg (by rw [hd2'.2, HS2.out, HS0.out.2.2.2]; simp), if_pos hd2'.1])
  have hpd := onProve_dead HON15.out HL2.out (by decide) root key
  rw [HRF.out] at hpd
  have HPD := Lib.hid hpd
  clear hk15 hd15 hd2 hd2' hpd CGO HON14 B714 HK14
  go_upto_region 19 with (first | (refine wpList_load_mid rfl 23 (.tmp 7) rfl q7 0 (by rfl) (key.map B) _ (rangeAt_all B715.out) Tryd.underlying23 rfl HSK.out ?_; try simp only [Act.put, List.setIfInBounds_toArray, List.set_cons_zero, List.set_cons_succ, List.getElem_toArray, List.getElem_cons_zero, List.getElem_cons_succ]) | (go_at_call 5; refine HPD.out.mono ?_; rintro r w16 ⟨rfl, hk16⟩) | (refine wl_alloc rfl 28 rfl ?_; refine ⟨_, _, run_alloc _ HZI.out, ?_⟩; (try simp only [Value.cells]); try simp only [Act.put, List.setIfInBounds_toArray, List.set_cons_zero, List.set_cons_succ, List.getElem_toArray, List.getElem_cons_zero, List.getElem_cons_succ]) | (refine wl_store rfl 28 (.tmp 19) (.tmp 99) rfl ?_; refine ⟨_, run_store_pf (heap_new_at rfl) HZ.out.1 HZ.out.1 HZ.out.2, ?_⟩; try simp only [Act.put, List.setIfInBounds_toArray, List.set_cons_zero, List.set_cons_succ, List.getElem_toArray, List.getElem_cons_zero, List.getElem_cons_succ]))
  obtain ⟨q19, hq19⟩ : ∃ x, x = w16.heap.size := ⟨_, rfl⟩
  obtain ⟨w17, hw17⟩ : ∃ x, x = (w16.alloc (.cells Z.toArray 28 (0, 0))).setCells w16.heap.size 0 Z := ⟨_, rfl⟩
  obtain ⟨hpb, hkp⟩ := put_pf w16 (Z := Z)
  rw [← hw17, ← hq19] at hpb
  rw [← hw17] at hkp
  rw [← hw17, ← hq19]
  have H19 := Lib.hid (show PB w17 q19 Z from hpb)
  have hk17 := hk16.trans (G := []) hkp (by simp)
  have HON17 := Lib.hid (HON15.out.keeps hk17 (by simp) (by simp))
  have HN19 := Lib.hid (show q19 ∉ F from fun h => by have := HON15.out.lt q19 (.inl h); have := hk16.size; omega)
  have B717 := Lib.hid (B715.out.keeps hk17 (by simp))
  have HK17 := Lib.hid (HK15.out.trans (G := []) hk17 (by simp))
  have hpd := onProve_dead HON17.out HL2.out (by decide) 0 key
  rw [HRF.out] at hpd
  have HPE := Lib.hid hpd
  clear hk16 hk17 hpb hkp hw17 hq19 hpd HPD HON15 B715 HK15
  go_upto_region 20 with (first | (refine wpList_load_mid rfl 23 (.tmp 7) rfl q7 0 (by rfl) (key.map B) _ (rangeAt_all B717.out) Tryd.underlying23 rfl HSK.out ?_; try simp only [Act.put, List.setIfInBounds_toArray, List.set_cons_zero, List.set_cons_succ, List.getElem_toArray, List.getElem_cons_zero, List.getElem_cons_succ]) | (go_at_call 5; refine HPE.out.mono ?_; rintro r w18 ⟨rfl, hk18⟩) | (refine wl_alloc rfl 28 rfl ?_; refine ⟨_, _, run_alloc _ HZI.out, ?_⟩; (try simp only [Value.cells]); try simp only [Act.put, List.setIfInBounds_toArray, List.set_cons_zero, List.set_cons_succ, List.getElem_toArray, List.getElem_cons_zero, List.getElem_cons_succ]) | (refine wl_store rfl 28 (.tmp 21) (.tmp 105) rfl ?_; refine ⟨_, run_store_pf (heap_new_at rfl) HZ.out.1 HZ.out.1 HZ.out.2, ?_⟩; try simp only [Act.put, List.setIfInBounds_toArray, List.set_cons_zero, List.set_cons_succ, List.getElem_toArray, List.getElem_cons_zero, List.getElem_cons_succ]))
  obtain ⟨q21, hq21⟩ : ∃ x, x = w18.heap.size := ⟨_, rfl⟩
  obtain ⟨w19, hw19⟩ : ∃ x, x = (w18.alloc (.cells Z.toArray 28 (0, 0))).setCells w18.heap.size 0 Z := ⟨_, rfl⟩
  obtain ⟨hpb, hkp⟩ := put_pf w18 (Z := Z)
  rw [← hw19, ← hq21] at hpb
  rw [← hw19] at hkp
  rw [← hw19, ← hq21]
  have H21 := Lib.hid (show PB w19 q21 Z from hpb)
  have hk19 := hk18.trans (G := []) hkp (by simp)
  have H19b := Lib.hid (H19.out.keeps hk19 (by simp))
  have HON19 := Lib.hid (HON17.out.keeps hk19 (by simp) (by simp))
  have HN21 := Lib.hid (show q21 ∉ F from fun h => by have := HON17.out.lt q21 (.inl h); have := hk18.size; omega)
  have B719 := Lib.hid (B717.out.keeps hk19 (by simp))
  have HK19 := Lib.hid (HK17.out.trans (G := []) hk19 (by simp))
  have CCR := Lib.hid (crash_d HON19.out.disk)
  clear hk18 hk19 hpb hkp hw19 hq21 HPE H19 HON17 B717 HK17
  go_upto_region 21 with (first | (go_at_call 11; refine CCR.out.mono ?_; rintro e w20 ⟨nq, rfl, hk20, F', hd20, hF20⟩))
  have HON20 := Lib.hid (HON19.out.disk' hk20 hd20 (fun k hk => HON19.out.apart k (hF20 k hk)))
  have H19c := Lib.hid (H19b.out.keeps hk20 HN19.out)
  have H21c := Lib.hid (H21.out.keeps hk20 HN21.out)
  have B720 := Lib.hid (B719.out.keeps hk20 (fun h => by have := HG'.out _ (.inl h); have := HQ7.out; omega))
  have HK20 := Lib.hid (HK19.out.trans (G := F) hk20 (fun k hk => .inr (Nat.le_of_lt (HG'.out k (.inl hk)))))
  have hl3 : liveE (crashD d2) S2.f = 3 := by
    unfold liveE
    rw [if_pos (by rw [HS2.out, HS0.out.2.2.2]; show ¬ wrap64 (d2.epoch + 1) = 1; rw [HD2.out.2]; simp [wrap64])]
  have hpd := onProve_dead HON20.out hl3 (by decide) root key
  rw [HRF.out] at hpd
  have HPF := Lib.hid hpd
  clear hk20 hd20 hF20 hl3 hpd CCR H19b H21 HON19 B719 HK19
  go_upto_region 22 with (first | (refine wpList_load_mid rfl 23 (.tmp 7) rfl q7 0 (by rfl) (key.map B) _ (rangeAt_all B720.out) Tryd.underlying23 rfl HSK.out ?_; try simp only [Act.put, List.setIfInBounds_toArray, List.set_cons_zero, List.set_cons_succ, List.getElem_toArray, List.getElem_cons_zero, List.getElem_cons_succ]) | (go_at_call 5; refine HPF.out.mono ?_; rintro r w21 ⟨rfl, hk21⟩) | (refine wl_alloc rfl 28 rfl ?_; refine ⟨_, _, run_alloc _ HZI.out, ?_⟩; (try simp only [Value.cells]); try simp only [Act.put, List.setIfInBounds_toArray, List.set_cons_zero, List.set_cons_succ, List.getElem_toArray, List.getElem_cons_zero, List.getElem_cons_succ]) | (refine wl_store rfl 28 (.tmp 23) (.tmp 114) rfl ?_; refine ⟨_, run_store_pf (heap_new_at rfl) HZ.out.1 HZ.out.1 HZ.out.2, ?_⟩; try simp only [Act.put, List.setIfInBounds_toArray, List.set_cons_zero, List.set_cons_succ, List.getElem_toArray, List.getElem_cons_zero, List.getElem_cons_succ]))
  obtain ⟨q23, hq23⟩ : ∃ x, x = w21.heap.size := ⟨_, rfl⟩
  obtain ⟨w22, hw22⟩ : ∃ x, x = (w21.alloc (.cells Z.toArray 28 (0, 0))).setCells w21.heap.size 0 Z := ⟨_, rfl⟩
  obtain ⟨hpb, hkp⟩ := put_pf w21 (Z := Z)
  rw [← hw22, ← hq23] at hpb
  rw [← hw22] at hkp
  rw [← hw22, ← hq23]
  have H23 := Lib.hid (show PB w22 q23 Z from hpb)
  have hk22 := hk21.trans (G := []) hkp (by simp)
  have H19d := Lib.hid (H19c.out.keeps hk22 (by simp))
  have H21d := Lib.hid (H21c.out.keeps hk22 (by simp))
  have HK22 := Lib.hid (HK20.out.trans (G := []) hk22 (by simp))
  clear hk21 hk22 hpb hkp hw22 hq23 HPF H19c H21c HON20 B720 HK20
  go_upto_region 24 with fail
  go_wp2_with (first | (refine wpList_load_mid rfl 28 (.tmp 19) rfl q19 0 (by rfl) Z _ H19d.out.range Tryd.underlying28 rfl HSZ.out ?_; try simp only [Act.put, List.setIfInBounds_toArray, List.set_cons_zero, List.set_cons_succ, List.getElem_toArray, List.getElem_cons_zero, List.getElem_cons_succ]) | (refine wl_build rfl 28 #[] #[] rfl (by simp [Act.eval]) ?_; refine ⟨_, _, HBL.out _, ?_⟩; try simp only [Act.put, List.setIfInBounds_toArray, List.set_cons_zero, List.set_cons_succ, List.getElem_toArray, List.getElem_cons_zero, List.getElem_cons_succ]) | (refine Go.BigFrame.wpList_want (by rfl) fun K hK => wp_build 28 #[] #[] rfl (by simp) ⟨_, _, HBL.out _, hK _ _ ?_⟩; try simp only [Act.put, List.setIfInBounds_toArray, List.set_cons_zero, List.set_cons_succ, List.getElem_toArray, List.getElem_cons_zero, List.getElem_cons_succ]) | (refine Go.BigFrame.wpList_want (by rfl) fun K hK => wp_load_mid 28 (.tmp 21) rfl q21 0 (by rfl) Z _ H21d.out.range Tryd.underlying28 rfl HSZ.out (hK _ _ ?_); try simp only [Act.put, List.setIfInBounds_toArray, List.set_cons_zero, List.set_cons_succ, List.getElem_toArray, List.getElem_cons_zero, List.getElem_cons_succ]) | (refine Go.BigFrame.wpList_want (by rfl) fun K hK => wp_load_mid 28 (.tmp 23) rfl q23 0 (by rfl) Z _ H23.out.range Tryd.underlying28 rfl HSZ.out (hK _ _ ?_); try simp only [Act.put, List.setIfInBounds_toArray, List.set_cons_zero, List.set_cons_succ, List.getElem_toArray, List.getElem_cons_zero, List.getElem_cons_succ]) | (go_at_call 6; refine (HSA.out _).mono ?_; rintro e wq ⟨rfl, hkq⟩; replace H21d := Lib.hid (H21d.out.keeps hkq (by simp)); replace H23 := Lib.hid (H23.out.keeps hkq (by simp)); replace HK22 := Lib.hid (HK22.out.trans (G := []) hkq (by simp)); clear hkq))
  go_ret
  exact ⟨rfl, HK22.out⟩
end Go.Proofs.YtojlojdkhegbkaaDoor
