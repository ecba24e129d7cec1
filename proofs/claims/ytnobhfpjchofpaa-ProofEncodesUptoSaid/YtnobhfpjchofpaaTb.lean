/-
  Layer 12's law: what the rounds of an Encode keep.
-/
import Derived.Test.YtnobhfpjchofpaaCx
import Derived.Test.YtnobhfpjchofpaaCz
namespace Go.Proofs.Ytnobhfpjchofpaa
set_option linter.unusedVariables false
set_option linter.unusedSimpArgs false
open Go.RowKit

theorem built_digest (x : UInt8) : Try.prog.built 45 [(0, .int .u8 x.toNat)] = some ((x :: List.replicate 31 0).map B).toArray := by kernel_rfl
theorem run_build_digest (w : World) (x : UInt8) : (Instr.build 45 #[(0, .int .u8 x.toNat)]).run Try.prog w = .ok (.agg ((x :: List.replicate 31 0).map B).toArray) w :=
  run_build w _ _ _ (built_digest x)
theorem u8_wrap (k : Nat) : ∃ x : UInt8, IntKind.u8.wrap (k : Int) = (x.toNat : Int) := by
  refine ⟨UInt8.ofNat k, ?_⟩
  rw [IntKind.wrap_u8]
  simp
theorem xor_90 (n : Nat) (h : n < 256) : ∃ y : UInt8, bits BinOp.xor IntKind.u8 (n : Int) 90 = (y.toNat : Int) := by
  have key : ∀ x : Fin 256, bits BinOp.xor IntKind.u8 ((x.val : Nat) : Int) 90 = ((x.val.toUInt8 ^^^ 90).toNat : Int) := by decide +kernel
  exact ⟨_, key ⟨n, h⟩⟩

structure EncIn (w0 : World) (gv gd q n M : Nat) (C : List Value) (w : World) : Prop where
  val : ∃ LL : List UInt8, LL.length = n + 100 ∧ OwnB w (.slice (some ⟨gv, 0, none⟩) (n + 100) (n + 100)) LL
  sums : ∃ L : List (List UInt8), L.length = M ∧ (∀ s ∈ L, s.length = 32) ∧ w.heap[gd]? = some (.cells (sumCells L).toArray 45 (0, 0))
  pf : w.heap[q]? = some (.cells C.toArray 30 (0, 0))
  keep : Keeps [] w0 w
  gv0 : w0.heap.size ≤ gv
  gd0 : w0.heap.size ≤ gd
  q0 : w0.heap.size ≤ q
  n1 : gv ≠ gd
  n2 : gv ≠ q
  n3 : gd ≠ q
namespace EncIn
variable {w0 w w' : World} {gv gd q n M : Nat} {C : List Value}
theorem keeps (h : EncIn w0 gv gd q n M C w) (hk : Keeps [] w w') : EncIn w0 gv gd q n M C w' := by
  obtain ⟨LL, h1, h2⟩ := h.val
  obtain ⟨L, h3, h4, h5⟩ := h.sums
  exact ⟨⟨LL, h1, ownsRow_keep h2 (fun j hj => hk.block j (World.ownsRow.lt h2 j hj).2 (by simp))⟩, ⟨L, h3, h4, (hk.block _ (lt_of_heap h5) (by simp)).trans h5⟩,
    (hk.block _ (lt_of_heap h.pf) (by simp)).trans h.pf, h.keep.trans (G := []) hk (by simp), h.gv0, h.gd0, h.q0, h.n1, h.n2, h.n3⟩
theorem byte (h : EncIn w0 gv gd q n M C w) (j : Nat) (hj : j < n + 100) : ∃ x : UInt8, (w.cell? ⟨gv, j, none⟩ = some (.int .u8 x.toNat) ∧ w.frozen? ⟨gv, j, none⟩ = false) ∧
    ∀ y : UInt8, EncIn w0 gv gd q n M C (w.setCell ⟨gv, j, none⟩ (.int .u8 (y.toNat : Int))).drew := by
  obtain ⟨LL, h1, h2⟩ := h.val
  obtain ⟨L, h3, h4, h5⟩ := h.sums
  have hjl : j < LL.length := by omega
  refine ⟨LL[j], ⟨h2.cell j hjl, h2.free j⟩, fun y => ⟨⟨LL.set j y, by rw [List.length_set, h1], ownsRow_keep (h2.set j hjl y) (fun _ _ => rfl)⟩, ⟨L, h3, h4, ?_⟩, ?_, (h.keep.setCell (p := ⟨gv, j, none⟩) (.inr h.gv0) _).drew, h.gv0, h.gd0, h.q0, h.n1, h.n2, h.n3⟩⟩
  · exact (Below.heap_setCell _ _ _ _ (by simpa using h.n1.symm)).trans h5
  · exact (Below.heap_setCell _ _ _ _ (by simpa using h.n2.symm)).trans h.pf
theorem sum (h : EncIn w0 gv gd q n M C w) (k : Nat) (hk : k < M) : ∃ x : UInt8, (w.cell? ⟨gd, k * 32 + 31, none⟩ = some (.int .u8 x.toNat) ∧ w.frozen? ⟨gd, k * 32 + 31, none⟩ = false) ∧
    ∀ y : UInt8, EncIn w0 gv gd q n M C (w.setCell ⟨gd, k * 32 + 31, none⟩ (.int .u8 (y.toNat : Int))).drew := by
  obtain ⟨LL, h1, h2⟩ := h.val
  obtain ⟨L, h3, h4, h5⟩ := h.sums
  have hkl : k < L.length := by omega
  have h32 := h4 _ (List.getElem_mem hkl)
  have hx : L[k][31]? = some (L[k][31]'(by omega)) := List.getElem?_eq_getElem _
  refine ⟨L[k][31]'(by omega), ⟨?_, frozen_of_row w gd _ _ _ h5⟩, fun y => ⟨⟨LL, h1, ownsRow_keep h2 (fun j hj => ?_)⟩, ⟨L.set k (L[k].set 31 y), by rw [List.length_set, h3], set_all32 h4 k (by rw [List.length_set, h32]), ?_⟩, ?_, (h.keep.setCell (p := ⟨gd, k * 32 + 31, none⟩) (.inr h.gd0) _).drew, h.gv0, h.gd0, h.q0, h.n1, h.n2, h.n3⟩⟩
  · rw [cell_of_row w gd _ _ _ _ h5, List.getElem?_toArray, sumCells_get h4 hkl hx]
    rfl
  · have e : gv = j := by simpa [Value.ownBlock] using hj
    subst e
    exact Below.heap_setCell _ _ _ _ (by simpa using h.n1)
  · have e := heap_setCell_same w gd (k * 32 + 31) _ _ (.int .u8 (y.toNat : Int)) h5
    rw [List.setIfInBounds_toArray, show (Value.int .u8 (y.toNat : Int)) = B y from rfl, sumCells_byte h4 hkl (by omega)] at e
    exact e
  · exact (Below.heap_setCell _ _ _ _ (by simpa using h.n3.symm)).trans h.pf
theorem store (h : EncIn w0 gv gd q n M C w) (k : Nat) (hk : k < M) {y : List UInt8} (hy : y.length = 32) :
    (Instr.storeAt 45 (.pointer (some ⟨gd, k * 32, none⟩)) (.agg (y.map B).toArray)).run Try.prog w = .ok () (w.setCells gd (k * 32) (y.map B)) ∧ EncIn w0 gv gd q n M C (w.setCells gd (k * 32) (y.map B)) := by
  obtain ⟨LL, h1, h2⟩ := h.val
  obtain ⟨L, h3, h4, h5⟩ := h.sums
  have hkl : k < L.length := by omega
  have hlen := sumCells_len h4
  have hfit : k * 32 + (y.map B).length ≤ (sumCells L).length := by rw [hlen, List.length_map, hy]; omega
  refine ⟨?_, ⟨LL, h1, ownsRow_keep h2 (fun j hj => ?_)⟩, ⟨L.set k y, by rw [List.length_set, h3], set_all32 h4 k hy, ?_⟩, ?_, h.keep.setCells (.inr h.gd0) _ _, h.gv0, h.gd0, h.q0, h.n1, h.n2, h.n3⟩
  · have := run_storeAt_mid (P := Try.prog) w gd (k * 32) 45 (y.map B).toArray (there_all h5 _ _ (by simpa using hfit)) (by rw [size_digest_of hy]; simp) (all_oneCell_toArray (B_one y))
    simpa using this
  · have e : gv = j := by simpa [Value.ownBlock] using hj
    subst e
    exact heap_setCells_other _ _ _ h.n1 _ _
  · have e := heap_setCells_same gd 45 (y.map B) (k * 32) w _ h5 hfit
    rw [sumCells_whole h4 hkl hy] at e
    exact e
  · exact (heap_setCells_other _ _ _ h.n3.symm _ _).trans h.pf
theorem put34 {p : Pf} (hb : p.bits.length = 32) {vv sv : Value} (h : EncIn w0 gv gd q n M (pfCells p vv sv) w) (sv2 : Value) : EncIn w0 gv gd q n M (pfCells p vv sv2) (w.setCell ⟨q, 34, none⟩ sv2) := by
  obtain ⟨LL, h1, h2⟩ := h.val
  obtain ⟨L, h3, h4, h5⟩ := h.sums
  refine ⟨⟨LL, h1, ownsRow_keep h2 (fun j hj => ?_)⟩, ⟨L, h3, h4, ?_⟩, ?_, h.keep.setCell (p := ⟨q, 34, none⟩) (.inr h.q0) _, h.gv0, h.gd0, h.q0, h.n1, h.n2, h.n3⟩
  · have e : gv = j := by simpa [Value.ownBlock] using hj
    subst e
    exact Below.heap_setCell _ _ _ _ (by simpa using h.n2)
  · exact (Below.heap_setCell _ _ _ _ (by simpa using h.n3)).trans h5
  · have e := heap_setCell_same w q 34 _ _ sv2 h.pf
    rw [pf_set34 (p := p) hb] at e
    exact e
theorem pfIn {p : Pf} (hb : p.bits.length = 32) (h : EncIn w0 gv gd q n M (pfCells p (.slice (some ⟨gv, 0, none⟩) (n + 100) (n + 100)) (.slice (some ⟨gd, 0, none⟩) M M)) w) (hn : n ≤ 1048576) (hM0 : 0 < M) (hM : M ≤ 1048676) :
    ∃ LL L, LL.length = n + 100 ∧ L.length = M ∧ PfIn w (.agg (pfCells p (.slice (some ⟨gv, 0, none⟩) (n + 100) (n + 100)) (.slice (some ⟨gd, 0, none⟩) M M)).toArray) ⟨p.found, LL, p.bits, L⟩ := by
  obtain ⟨LL, h1, h2⟩ := h.val
  obtain ⟨L, h3, h4, h5⟩ := h.sums
  refine ⟨LL, L, h1, h3, _, _, rfl, ownB_bytes h2, .inr ⟨gd, 0, M, by rw [h3], (by show L.length ≤ M; omega), by simp only [maxLen]; omega, lt_of_heap h5, rangeAt_all h5⟩, hb, h4⟩
end EncIn
theorem enc_start {w0 w : World} {gv q n M : Nat} {p : Pf} {vv sv : Value} (hb : p.bits.length = 32) {LL : List UInt8} (hl : LL.length = n + 100)
    (hO : OwnB w (.slice (some ⟨gv, 0, none⟩) (n + 100) (n + 100)) LL) (hq : w.heap[q]? = some (.cells (pfCells p vv sv).toArray 30 (0, 0))) (hk : Keeps [] w0 w) (h1 : w0.heap.size ≤ gv) (h2 : w0.heap.size ≤ q) (hne : gv ≠ q) (v2 : Value) :
    EncIn w0 gv w.heap.size q n M (pfCells p v2 sv) ((w.setCell ⟨q, 1, none⟩ v2).alloc (.cells (sumCells (List.replicate M (List.replicate 32 0))).toArray 45 (0, 0))) := by
  have hgv : gv < w.heap.size := (World.ownsRow.lt hO gv rfl).2
  have hqz := lt_of_heap hq
  have hsz : (w.setCell ⟨q, 1, none⟩ v2).heap.size = w.heap.size := by simp [World.setCell]
  refine ⟨⟨LL, hl, ownsRow_keep hO (fun j hj => ?_)⟩, ⟨List.replicate M (List.replicate 32 0), by simp, by simp, heap_new_at hsz.symm⟩, ?_, (hk.setCell (p := ⟨q, 1, none⟩) (.inr h2) _).alloc _, h1, hk.size, h2, by omega, hne, by omega⟩
  · have e : gv = j := by simpa [Value.ownBlock] using hj
    subst e
    exact (heap_old_at (by omega)).trans (Below.heap_setCell _ _ _ _ (by simpa using hne))
  · refine (heap_old_at (by omega)).trans ?_
    have e := heap_setCell_same w q 1 _ _ v2 hq
    rw [pf_set1 _ _ _ _ p.val] at e
    exact e
/-- makeSlice of digests, behind a store. -/
theorem make_digests (w : World) {q M : Nat} (v2 : Value) (hM : M ≤ 1048676) :
    (Instr.makeSlice 28 (.int .i64 M) (.int .i64 M)).run Try.prog (w.setCell ⟨q, 1, none⟩ v2) =
      .ok (.slice (some ⟨w.heap.size, 0, none⟩) M M) ((w.setCell ⟨q, 1, none⟩ v2).alloc (.cells (sumCells (List.replicate M (List.replicate 32 0))).toArray 45 (0, 0))) := by
  obtain ⟨i0, hi, hz0, hz1, hz2⟩ := info_parts info_digest
  have hmk := run_make (P := Try.prog) (w.setCell ⟨q, 1, none⟩ v2) 28 45 i0 _ Try.underlying28 hi hz0 .i64 .i64 (M : Int) (M : Int) (by omega) (by omega) (by rw [hz2]; omega) (by omega)
  have hs : ∀ k, sumCells (List.replicate k (List.replicate 32 (0 : UInt8))) = List.replicate (k * 32) (.int .u8 0) := by
    intro k
    induction k with
    | zero => rfl
    | succ k ih =>
      rw [List.replicate_succ, show sumCells (List.replicate 32 (0 : UInt8) :: List.replicate k (List.replicate 32 0)) = (List.replicate 32 (0 : UInt8)).map B ++ sumCells (List.replicate k (List.replicate 32 0)) from rfl, ih, List.map_replicate, show B 0 = Value.int .u8 0 from rfl, List.replicate_append_replicate]
      congr 1
      omega
  have hz : madeCells (Value.agg (Array.replicate 32 (.int .u8 0))).cells (Int.toNat (M : Int) * i0.size) = (sumCells (List.replicate M (List.replicate 32 (0 : UInt8)))).toArray := by
    rw [hz1, show (Value.agg (Array.replicate 32 (.int .u8 0))).cells = Array.replicate 32 (.int .u8 0) from rfl, madeCells_same 32 _ _ (by omega), hs]
    simp
  rw [hz] at hmk
  simp only [Int.toNat_natCast] at hmk
  have hsz : (w.setCell ⟨q, 1, none⟩ v2).heap.size = w.heap.size := by simp [World.setCell]
  rw [hsz] at hmk
  exact hmk
end Go.Proofs.Ytnobhfpjchofpaa
