/-
  Plain laws on what a sync and a crash make of an image.
-/
import Derived.Test.YtbjffjplpnnhoaaDkE
namespace Go.Proofs.Ytbjffjplpnnhoaa
set_option linter.unusedVariables false
set_option linter.unusedSimpArgs false
open Go.RowKit

theorem setAt_setAt {img l1 l2 : List UInt8} {o p : Nat} (hp : p = o + l1.length) (h : o + l1.length + l2.length ≤ img.length) : setAt (setAt img o l1) p l2 = setAt img o (l1 ++ l2) := by
  subst hp
  unfold setAt
  have e1 : (img.take o ++ l1 ++ img.drop (o + l1.length)).take (o + l1.length) = img.take o ++ l1 := List.take_left' (by simp; omega)
  have e2 : (img.take o ++ l1 ++ img.drop (o + l1.length)).drop (o + l1.length + l2.length) = img.drop (o + l1.length + l2.length) := by
    rw [List.drop_append, List.drop_of_length_le (by simp; omega), List.nil_append, List.drop_drop]
    congr 1
    simp
    omega
  rw [e1, e2]
  simp [Nat.add_assoc]
theorem fate15 : ∀ j, j < 4 → fateBit 15 j = true := by
  intro j hj
  have : j = 0 ∨ j = 1 ∨ j = 2 ∨ j = 3 := by omega
  rcases this with rfl | rfl | rfl | rfl <;> decide
set_option maxRecDepth 10000 in
theorem sects_all {img : List UInt8} {p : Nat} {data : List UInt8} (hd : data.length = 256) (h : p * 256 + 256 ≤ img.length) : sects img p data 15 4 = setPage img p data := by
  have step : ∀ k, k ≤ 4 → 0 < k → sects img p data 15 k = setAt img (p * 256) (data.take (k * 64)) := by
    intro k
    induction k with
    | zero => intro _ h0; omega
    | succ k ih =>
      intro hk _
      rw [sects_succ, sect, if_pos (fate15 k (by omega))]
      by_cases h0 : k = 0
      · subst h0
        simp [sects]
      · rw [ih (by omega) (by omega), setAt_setAt (by rw [List.length_take]; omega) (by rw [List.length_take, List.length_take, List.length_drop]; omega)]
        congr 1
        rw [← List.take_add, Nat.add_mul, Nat.one_mul]
  rw [step 4 (by omega) (by omega), List.take_of_length_le (by omega)]
  rfl
theorem crashed_all {n : Nat} : ∀ (q : List (Nat × List UInt8)) {img : List UInt8}, img.length = 256 * n → (∀ p ∈ q, p.1 < n ∧ p.2.length = 256) → crashed img q (List.replicate q.length 15) = synced img q := by
  intro q
  induction q with
  | nil => intro img _ _; rfl
  | cons x q ih =>
    intro img hl hq
    have hx := hq x (by simp)
    rw [List.length_cons, List.replicate_succ]
    have e : crashed img (x :: q) (15 :: List.replicate q.length 15) = crashed (sects img x.1 x.2 15 4) q (List.replicate q.length 15) := by simp [crashed]
    rw [e, sects_all hx.2 (by omega), ih (by rw [setPage_length (by omega), hl]) (fun p hp => hq p (by simp [hp]))]
    simp [synced]
theorem crashed_nil (img : List UInt8) (q : List (Nat × List UInt8)) : crashed img q [] = img := by simp [crashed]
end Go.Proofs.Ytbjffjplpnnhoaa
