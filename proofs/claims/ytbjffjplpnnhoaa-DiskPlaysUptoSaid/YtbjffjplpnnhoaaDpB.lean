/-
  Plain law: a crash, byte by byte.
-/
import Derived.Test.YtbjffjplpnnhoaaDpA
namespace Go.Proofs.Ytbjffjplpnnhoaa
set_option linter.unusedVariables false
set_option linter.unusedSimpArgs false
open Go.RowKit

/-- One byte of one open write, as the statement lays it. -/
def tearAt (img : List UInt8) (p : Nat) (data : List UInt8) (f : UInt8) (j : Nat) : List UInt8 := if fateBit f (j / 64) then img.set (p * 256 + j) (data.getD j 0) else img
def tearRow (img : List UInt8) (p : Nat) (data : List UInt8) (f : UInt8) (k : Nat) : List UInt8 := (List.range k).foldl (fun m j => tearAt m p data f j) img
theorem tearRow_succ (img : List UInt8) (p : Nat) (data : List UInt8) (f : UInt8) (k : Nat) : tearRow img p data f (k + 1) = tearAt (tearRow img p data f k) p data f k := by simp [tearRow, List.range_succ]
theorem tearAt_length (img : List UInt8) (p : Nat) (data : List UInt8) (f : UInt8) (j : Nat) : (tearAt img p data f j).length = img.length := by unfold tearAt; split <;> simp
theorem tearRow_length (img : List UInt8) (p : Nat) (data : List UInt8) (f : UInt8) (k : Nat) : (tearRow img p data f k).length = img.length := by
  induction k with
  | zero => rfl
  | succ k ih => rw [tearRow_succ, tearAt_length, ih]
set_option maxRecDepth 10000 in
theorem tearRow_get (img : List UInt8) (p : Nat) (data : List UInt8) (f : UInt8) (hp : p * 256 + 256 ≤ img.length) (hd : data.length = 256) (x : Nat) : ∀ k, k ≤ 256 →
    (tearRow img p data f k)[x]? = if p * 256 ≤ x ∧ x < p * 256 + k ∧ fateBit f ((x - p * 256) / 64) = true then data[x - p * 256]? else img[x]? := by
  intro k
  induction k with
  | zero => intro _; rw [if_neg (by omega)]; rfl
  | succ k ih =>
    intro hk
    have hL := tearRow_length img p data f k
    have h := ih (by omega)
    rw [tearRow_succ, tearAt]
    by_cases hx : x = p * 256 + k
    · subst hx
      have e : p * 256 + k - p * 256 = k := by omega
      simp only [e]
      rw [if_neg (by omega)] at h
      by_cases hb : fateBit f (k / 64) = true
      · rw [if_pos hb, if_pos (by refine ⟨by omega, by omega, hb⟩), List.getElem?_set_self (by omega), List.getD_eq_getElem?_getD, List.getElem?_eq_getElem (by omega)]
        rfl
      · rw [if_neg hb, if_neg (by intro hc; exact hb hc.2.2), h]
    · have e2 : (p * 256 ≤ x ∧ x < p * 256 + (k + 1) ∧ fateBit f ((x - p * 256) / 64) = true) = (p * 256 ≤ x ∧ x < p * 256 + k ∧ fateBit f ((x - p * 256) / 64) = true) := by
        apply propext
        constructor
        · rintro ⟨a, b, c⟩; exact ⟨a, by omega, c⟩
        · rintro ⟨a, b, c⟩; exact ⟨a, by omega, c⟩
      simp only [e2]
      rw [← h]
      split
      · exact List.getElem?_set_ne (Ne.symm hx)
      · rfl
theorem setAt_get (img : List UInt8) (o : Nat) (l : List UInt8) (h : o + l.length ≤ img.length) (x : Nat) : (setAt img o l)[x]? = if o ≤ x ∧ x < o + l.length then l[x - o]? else img[x]? := by
  unfold setAt
  rw [List.append_assoc]
  by_cases h1 : x < o
  · rw [if_neg (by omega), List.getElem?_append_left (by simp; omega), List.getElem?_take_of_lt h1]
  · rw [List.getElem?_append_right (by simp; omega)]
    have e : (img.take o).length = o := by simp; omega
    rw [e]
    by_cases h2 : x < o + l.length
    · rw [if_pos (by omega), List.getElem?_append_left (by omega)]
    · rw [if_neg (by omega), List.getElem?_append_right (by omega), List.getElem?_drop]
      congr 1
      omega
set_option maxRecDepth 10000 in
theorem sects_get (img : List UInt8) (p : Nat) (data : List UInt8) (f : UInt8) (hp : p * 256 + 256 ≤ img.length) (hd : data.length = 256) (x : Nat) : ∀ k, k ≤ 4 →
    (sects img p data f k)[x]? = if p * 256 ≤ x ∧ x < p * 256 + k * 64 ∧ fateBit f ((x - p * 256) / 64) = true then data[x - p * 256]? else img[x]? := by
  intro k
  induction k with
  | zero => intro _; rw [if_neg (by omega)]; rfl
  | succ k ih =>
    intro hk
    have hL := sects_length (img := img) (p := p) (data := data) (f := f) (k := k) hp (by omega)
    have h := ih (by omega)
    have hl : ((data.drop (k * 64)).take 64).length = 64 := by rw [List.length_take, List.length_drop]; omega
    rw [sects_succ, sect]
    by_cases hb : fateBit f k = true
    · rw [if_pos hb, setAt_get _ _ _ (by omega), hl]
      by_cases hx : p * 256 + k * 64 ≤ x ∧ x < p * 256 + k * 64 + 64
      · have e : (x - p * 256) / 64 = k := by omega
        rw [if_pos hx, if_pos ⟨by omega, by omega, by rw [e]; exact hb⟩, List.getElem?_take_of_lt (by omega), List.getElem?_drop]
        congr 1
        omega
      · rw [if_neg hx, h]
        have e2 : (p * 256 ≤ x ∧ x < p * 256 + (k + 1) * 64 ∧ fateBit f ((x - p * 256) / 64) = true) = (p * 256 ≤ x ∧ x < p * 256 + k * 64 ∧ fateBit f ((x - p * 256) / 64) = true) := by
          apply propext
          constructor
          · rintro ⟨a, b, c⟩; exact ⟨a, by omega, c⟩
          · rintro ⟨a, b, c⟩; exact ⟨a, by omega, c⟩
        simp only [e2]
    · rw [if_neg hb, h]
      have e2 : (p * 256 ≤ x ∧ x < p * 256 + (k + 1) * 64 ∧ fateBit f ((x - p * 256) / 64) = true) = (p * 256 ≤ x ∧ x < p * 256 + k * 64 ∧ fateBit f ((x - p * 256) / 64) = true) := by
        apply propext
        constructor
        · rintro ⟨a, b, c⟩
          refine ⟨a, ?_, c⟩
          apply Classical.byContradiction
          intro hn
          have e : (x - p * 256) / 64 = k := by omega
          rw [e] at c
          exact hb c
        · rintro ⟨a, b, c⟩; exact ⟨a, by omega, c⟩
      simp only [e2]
set_option maxRecDepth 10000 in
/-- Byte by byte is sector by sector. -/
theorem tearRow_all (img : List UInt8) (p : Nat) (data : List UInt8) (f : UInt8) (hp : p * 256 + 256 ≤ img.length) (hd : data.length = 256) : tearRow img p data f 256 = sects img p data f 4 := by
  apply List.ext_getElem?
  intro x
  rw [tearRow_get img p data f hp hd x 256 (by omega), sects_get img p data f hp hd x 4 (by omega)]
theorem fate0 (j : Nat) : fateBit 0 j = false := by
  unfold fateBit
  have e : ((0 : UInt8).toNat : Int) / 2 ^ j = 0 := by simp
  rw [e]
  decide
theorem tearRow_none (img : List UInt8) (p : Nat) (data : List UInt8) (k : Nat) : tearRow img p data 0 k = img := by
  induction k with
  | zero => rfl
  | succ k ih => rw [tearRow_succ, tearAt, if_neg (by rw [fate0]; simp), ih]
/-- All open writes, one behind the other; one that has no fate has none of its sectors. -/
def torn (img : List UInt8) (q : List (Nat × List UInt8)) (fates : List UInt8) (k : Nat) : List UInt8 := (List.range k).foldl (fun m i => tearRow m (q.getD i (0, [])).1 (q.getD i (0, [])).2 (fates.getD i 0) 256) img
theorem torn_succ (img : List UInt8) (q : List (Nat × List UInt8)) (fates : List UInt8) (k : Nat) : torn img q fates (k + 1) = tearRow (torn img q fates k) (q.getD k (0, [])).1 (q.getD k (0, [])).2 (fates.getD k 0) 256 := by simp [torn, List.range_succ]
theorem torn_length (img : List UInt8) (q : List (Nat × List UInt8)) (fates : List UInt8) (k : Nat) : (torn img q fates k).length = img.length := by
  induction k with
  | zero => rfl
  | succ k ih => rw [torn_succ, tearRow_length, ih]
set_option maxRecDepth 10000 in
theorem torn_crashed {n : Nat} (img : List UInt8) (q : List (Nat × List UInt8)) (fates : List UInt8) (hl : img.length = 256 * n) (hq : ∀ p ∈ q, p.1 < n ∧ p.2.length = 256) : torn img q fates q.length = crashed img q fates := by
  have step : ∀ k, k ≤ q.length → torn img q fates k = crashed img (q.take k) (fates.take k) := by
    intro k
    induction k with
    | zero => intro _; simp [torn, crashed]
    | succ k ih =>
      intro hk
      have hkq : k < q.length := by omega
      have hx := hq q[k] (List.getElem_mem hkq)
      have eq : q.getD k (0, []) = q[k] := by rw [List.getD_eq_getElem?_getD, List.getElem?_eq_getElem hkq]; rfl
      rw [torn_succ, eq]
      by_cases hf : k < fates.length
      · have ef : fates.getD k 0 = fates[k] := by rw [List.getD_eq_getElem?_getD, List.getElem?_eq_getElem hf]; rfl
        rw [ef, tearRow_all _ _ _ _ (by rw [torn_length]; omega) hx.2, crashed_snoc img q fates k hkq hf, ih (by omega)]
      · have ef : fates.getD k 0 = 0 := by rw [List.getD_eq_getElem?_getD, List.getElem?_eq_none (by omega)]; rfl
        rw [ef, tearRow_none, ih (by omega)]
        unfold crashed
        congr 1
        rw [List.take_of_length_le (l := fates) (by omega), List.take_of_length_le (l := fates) (by omega)]
        rw [List.zip_eq_zip_take_min, List.zip_eq_zip_take_min (l₁ := q.take (k + 1))]
        congr 1
        · rw [List.take_take, List.take_take]; congr 1; simp; omega
        · congr 1; simp; omega
  rw [step q.length (Nat.le_refl _), List.take_length]
  unfold crashed
  congr 1
  rw [List.zip_eq_zip_take_min, List.zip_eq_zip_take_min (l₂ := fates)]
  congr 1
  · congr 1; simp
  · rw [List.take_take]; congr 1; simp
end Go.Proofs.Ytbjffjplpnnhoaa
