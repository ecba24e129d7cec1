/-
  A row of digests: a digest, or a byte of one, stored into it.
-/
import Derived.Test.YtnobhfpjchofpaaCy
namespace Go.Proofs.Ytnobhfpjchofpaa
set_option linter.unusedVariables false
set_option linter.unusedSimpArgs false
open Go.RowKit

theorem sumCells_len {S : List (List UInt8)} (hd : ∀ s ∈ S, s.length = 32) : (sumCells S).length = S.length * 32 := by
  induction S with
  | nil => simp [sumCells]
  | cons x S ih =>
    have h1 := ih (fun s hs => hd s (by simp [hs]))
    have h2 := hd x (by simp)
    simp only [sumCells, List.flatMap_cons, List.length_append, List.length_cons, List.length_map] at h1 ⊢
    omega
theorem sumCells_set {S : List (List UInt8)} (hd : ∀ s ∈ S, s.length = 32) {k : Nat} (hk : k < S.length) (y : List UInt8) :
    ∃ xs zs, xs.length = k * 32 ∧ sumCells S = xs ++ (S[k].map B ++ zs) ∧ sumCells (S.set k y) = xs ++ (y.map B ++ zs) := by
  refine ⟨sumCells (S.take k), sumCells (S.drop (k + 1)), ?_, ?_, ?_⟩
  · rw [sumCells_len (fun s hs => hd s (List.mem_of_mem_take hs)), List.length_take]
    congr 1
    omega
  · have e : S = S.take k ++ S[k] :: S.drop (k + 1) := by simp
    have e2 := congrArg sumCells e
    simp only [sumCells, List.flatMap_append, List.flatMap_cons] at e2
    exact e2
  · have e : S.set k y = S.take k ++ y :: S.drop (k + 1) := by
      rw [List.set_eq_take_append_cons_drop, if_pos hk]
    have e2 := congrArg sumCells e
    simp only [sumCells, List.flatMap_append, List.flatMap_cons] at e2
    exact e2
/-- A byte of a digest. -/
theorem sumCells_byte {S : List (List UInt8)} (hd : ∀ s ∈ S, s.length = 32) {k j : Nat} (hk : k < S.length) (hj : j < 32) (b : UInt8) : (sumCells S).set (k * 32 + j) (B b) = sumCells (S.set k (S[k].set j b)) := by
  obtain ⟨xs, zs, h1, h2, h3⟩ := sumCells_set hd hk (S[k].set j b)
  have hl := hd _ (List.getElem_mem hk)
  rw [h2, h3, List.set_append_right _ _ (by omega), h1, show k * 32 + j - k * 32 = j from by omega, List.set_append_left _ _ (by rw [List.length_map, hl]; exact hj), List.map_set]
/-- A whole digest. -/
theorem sumCells_whole {S : List (List UInt8)} (hd : ∀ s ∈ S, s.length = 32) {k : Nat} (hk : k < S.length) {y : List UInt8} (hy : y.length = 32) : (sumCells S).take (k * 32) ++ y.map B ++ (sumCells S).drop (k * 32 + (y.map B).length) = sumCells (S.set k y) := by
  obtain ⟨xs, zs, h1, h2, h3⟩ := sumCells_set hd hk y
  have hl := hd _ (List.getElem_mem hk)
  rw [h2, h3, List.take_append_of_le_length (by omega), List.take_of_length_le (by omega)]
  rw [List.length_map, hy, ← List.append_assoc xs, List.drop_append_of_le_length (by rw [List.length_append, List.length_map, hl]; omega), List.drop_of_length_le (by rw [List.length_append, List.length_map, hl]; omega), List.nil_append, List.append_assoc]
/-- The cell of a byte of a digest. -/
theorem sumCells_get {S : List (List UInt8)} (hd : ∀ s ∈ S, s.length = 32) {k j : Nat} (hk : k < S.length) {b : UInt8} (hb : S[k][j]? = some b) : (sumCells S)[k * 32 + j]? = some (B b) := by
  obtain ⟨xs, zs, h1, h2, _⟩ := sumCells_set hd hk []
  have hj : j < S[k].length := (List.getElem?_eq_some_iff.1 hb).1
  rw [h2, List.getElem?_append_right (by omega), h1, show k * 32 + j - k * 32 = j from by omega, List.getElem?_append_left (by rw [List.length_map]; exact hj), List.getElem?_map, hb]
  rfl
theorem set_all32 {S : List (List UInt8)} (hd : ∀ s ∈ S, s.length = 32) (k : Nat) {y : List UInt8} (hy : y.length = 32) : ∀ s ∈ S.set k y, s.length = 32 := by
  intro s hs
  rcases List.mem_or_eq_of_mem_set hs with h | h
  · exact hd s h
  · rw [h]; exact hy
end Go.Proofs.Ytnobhfpjchofpaa
