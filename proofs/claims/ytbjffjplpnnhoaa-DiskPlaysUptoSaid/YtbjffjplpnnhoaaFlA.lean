/-
  Layer 4's law of flips, the plain part: bits of bytes; a pattern laid over them.
-/
import Derived.Test.YtbjffjplpnnhoaaPwA
import Derived.Laws.BitsAllLaws
import Derived.Lib.BitFns
namespace Go.Proofs.Ytbjffjplpnnhoaa
set_option linter.unusedVariables false
set_option linter.unusedSimpArgs false
open Go.RowKit

/-- Bit y of these bytes. -/
def bt (m : List UInt8) (y : Nat) : Bool := (m.getD (y / 8) 0).toNat.testBit (y % 8)
def vbit (b : Bool) (t : Nat) : UInt8 := if b then UInt8.ofNat (2 ^ t) else 0
/-- The pattern's first k bits, turned from bit x on. -/
def flipK (m : List UInt8) (x p : Nat) : Nat → List UInt8
  | 0 => m
  | k + 1 => (flipK m x p k).set ((x + k) / 8) ((flipK m x p k).getD ((x + k) / 8) 0 ^^^ vbit (p.testBit k) ((x + k) % 8))
theorem flipK_length (m : List UInt8) (x p : Nat) : ∀ k, (flipK m x p k).length = m.length
  | 0 => rfl
  | k + 1 => by rw [flipK, List.length_set, flipK_length m x p k]
theorem vbit_bit (b : Bool) {t s : Nat} (ht : t < 8) (hs : s < 8) : (vbit b t).toNat.testBit s = (b && decide (s = t)) := by
  have key : ∀ (b : Bool) (t s : Fin 8), (vbit b t.val).toNat.testBit s.val = (b && decide (s.val = t.val)) := by decide +kernel
  exact key b ⟨t, ht⟩ ⟨s, hs⟩
theorem bt_set (m : List UInt8) {i : Nat} (hi : i < m.length) (u : UInt8) (y : Nat) : bt (m.set i u) y = if y / 8 = i then u.toNat.testBit (y % 8) else bt m y := by
  unfold bt
  rw [List.getD_eq_getElem?_getD, List.getD_eq_getElem?_getD, List.getElem?_set]
  by_cases h : i = y / 8
  · rw [if_pos h, if_pos (h ▸ hi), if_pos h.symm]
    rfl
  · rw [if_neg h, if_neg (fun e => h e.symm)]
theorem bt_flip (m : List UInt8) (x p : Nat) : ∀ k, x + k ≤ 8 * m.length → ∀ y, bt (flipK m x p k) y = (bt m y ^^ (decide (x ≤ y ∧ y < x + k) && p.testBit (y - x))) := by
  intro k
  induction k with
  | zero =>
    intro _ y
    have e : decide (x ≤ y ∧ y < x + 0) = false := decide_eq_false (by omega)
    rw [e]
    simp [flipK]
  | succ k ih =>
    intro hk y
    have hi : (x + k) / 8 < (flipK m x p k).length := by rw [flipK_length]; omega
    rw [flipK, bt_set _ hi]
    by_cases h : y / 8 = (x + k) / 8
    · rw [if_pos h, UInt8.toNat_xor, Nat.testBit_xor, vbit_bit _ (by omega) (by omega)]
      have e : ((flipK m x p k).getD ((x + k) / 8) 0).toNat.testBit (y % 8) = bt (flipK m x p k) y := by rw [bt, h]
      rw [e, ih (by omega) y]
      by_cases hy : y = x + k
      · have e1 : decide (y % 8 = (x + k) % 8) = true := by simp [hy]
        have e2 : decide (x ≤ y ∧ y < x + k) = false := by simp; omega
        have e3 : decide (x ≤ y ∧ y < x + (k + 1)) = true := by simp; omega
        rw [e1, e2, e3, show y - x = k from by omega]
        simp
      · have e1 : decide (y % 8 = (x + k) % 8) = false := by simp; omega
        have e2 : decide (x ≤ y ∧ y < x + (k + 1)) = decide (x ≤ y ∧ y < x + k) := by congr 1; apply propext; omega
        rw [e1, e2]
        simp
    · rw [if_neg h, ih (by omega) y]
      have e2 : decide (x ≤ y ∧ y < x + (k + 1)) = decide (x ≤ y ∧ y < x + k) := by
        congr 1
        apply propext
        have : y ≠ x + k := fun e => h (by rw [e])
        omega
      rw [e2]
theorem bt_ext {m1 m2 : List UInt8} (hl : m1.length = m2.length) (h : ∀ y, y < 8 * m1.length → bt m1 y = bt m2 y) : m1 = m2 := by
  refine List.ext_getElem hl fun i h1 h2 => ?_
  apply UInt8.toNat_inj.1
  apply Nat.eq_of_testBit_eq
  intro t
  by_cases ht : t < 8
  · have := h (8 * i + t) (by omega)
    unfold bt at this
    rw [show (8 * i + t) / 8 = i from by omega, show (8 * i + t) % 8 = t from by omega, List.getD_eq_getElem?_getD, List.getD_eq_getElem?_getD, List.getElem?_eq_getElem h1, List.getElem?_eq_getElem h2] at this
    exact this
  · have key : ∀ n : Nat, n < 256 → n.testBit t = false := fun n hn => Nat.testBit_lt_two_pow (Nat.lt_of_lt_of_le hn (by
      have := Nat.pow_le_pow_right (show 0 < 2 by omega) (show 8 ≤ t by omega)
      omega))
    rw [key _ m1[i].toNat_lt, key _ m2[i].toNat_lt]
theorem flip_twice (m : List UInt8) (x p k : Nat) (h : x + k ≤ 8 * m.length) : flipK (flipK m x p k) x p k = m := by
  refine bt_ext (by rw [flipK_length, flipK_length]) fun y _ => ?_
  rw [bt_flip _ _ _ _ (by rw [flipK_length]; exact h), bt_flip _ _ _ _ h]
  cases bt m y <;> cases (decide (x ≤ y ∧ y < x + k) && p.testBit (y - x)) <;> rfl
theorem flip_more (m : List UInt8) (x p : Nat) {k : Nat} : ∀ {k'}, k ≤ k' → x + k' ≤ 8 * m.length → (∀ j, k ≤ j → j < k' → p.testBit j = false) → flipK m x p k = flipK m x p k' := by
  intro k' hk hl hz
  refine bt_ext (by rw [flipK_length, flipK_length]) fun y _ => ?_
  rw [bt_flip _ _ _ _ (by omega), bt_flip _ _ _ _ hl]
  congr 1
  by_cases h1 : x ≤ y ∧ y < x + k
  · have h2 : x ≤ y ∧ y < x + k' := by omega
    rw [decide_eq_true h1, decide_eq_true h2]
  · by_cases h2 : x ≤ y ∧ y < x + k'
    · rw [hz (y - x) (by omega) (by omega)]
      simp
    · rw [decide_eq_false h1, decide_eq_false h2]

/-- How many numbers below n has f. -/
def cnt (f : Nat → Bool) : Nat → Nat
  | 0 => 0
  | n + 1 => cnt f n + if f n then 1 else 0
theorem cnt_le (f : Nat → Bool) : ∀ n, cnt f n ≤ n
  | 0 => Nat.le_refl _
  | n + 1 => by have := cnt_le f n; unfold cnt; split <;> omega
theorem cnt_none {f : Nat → Bool} : ∀ {n}, (∀ j, j < n → f j = false) → cnt f n = 0
  | 0, _ => rfl
  | n + 1, h => by rw [cnt, cnt_none (fun j hj => h j (by omega)), h n (by omega)]; rfl
theorem cnt_window (p x K : Nat) : ∀ j, cnt (fun y => decide (x ≤ y ∧ y < x + K) && p.testBit (y - x)) (x + j) = cnt (fun i => p.testBit i) (min j K) := by
  intro j
  induction j with
  | zero =>
    rw [cnt_none (fun j hj => by have e : decide (x ≤ j ∧ j < x + K) = false := by simp; omega
                                 rw [e]; rfl)]
    simp [cnt]
  | succ j ih =>
    rw [show x + (j + 1) = (x + j) + 1 from rfl, cnt, ih]
    by_cases h : j < K
    · have e : decide (x ≤ x + j ∧ x + j < x + K) = true := by simp; omega
      rw [e, show x + j - x = j from by omega, show min (j + 1) K = min j K + 1 from by omega, cnt, show min j K = j from by omega]
      rfl
    · have e : decide (x ≤ x + j ∧ x + j < x + K) = false := by simp; omega
      rw [e, show min (j + 1) K = min j K from by omega]
      simp
/-- The bits in which the first k bytes differ. -/
def pops (a b : List UInt8) : Nat → Nat
  | 0 => 0
  | k + 1 => pops a b k + Lib.onesCount (a.getD k 0 ^^^ b.getD k 0).toNat
theorem ones8 (x : UInt8) : Lib.onesCount x.toNat = (if x.toNat.testBit 0 then 1 else 0) + (if x.toNat.testBit 1 then 1 else 0) + (if x.toNat.testBit 2 then 1 else 0) + (if x.toNat.testBit 3 then 1 else 0) + (if x.toNat.testBit 4 then 1 else 0) +
    (if x.toNat.testBit 5 then 1 else 0) + (if x.toNat.testBit 6 then 1 else 0) + (if x.toNat.testBit 7 then 1 else 0) := by
  have key : ∀ n : Fin 256, Lib.onesCount n.val = (if n.val.testBit 0 then 1 else 0) + (if n.val.testBit 1 then 1 else 0) + (if n.val.testBit 2 then 1 else 0) + (if n.val.testBit 3 then 1 else 0) + (if n.val.testBit 4 then 1 else 0) +
    (if n.val.testBit 5 then 1 else 0) + (if n.val.testBit 6 then 1 else 0) + (if n.val.testBit 7 then 1 else 0) := by decide +kernel
  exact key ⟨x.toNat, x.toNat_lt⟩
theorem pops_cnt (a b : List UInt8) : ∀ k, pops a b k = cnt (fun y => bt a y ^^ bt b y) (8 * k) := by
  intro k
  induction k with
  | zero => rfl
  | succ k ih =>
    rw [pops, ih, ones8, show 8 * (k + 1) = 8 * k + 7 + 1 from by omega]
    have e : ∀ t, t < 8 → ((a.getD k 0 ^^^ b.getD k 0).toNat.testBit t) = (bt a (8 * k + t) ^^ bt b (8 * k + t)) := fun t ht => by
      unfold bt
      rw [UInt8.toNat_xor, Nat.testBit_xor, show (8 * k + t) / 8 = k from by omega, show (8 * k + t) % 8 = t from by omega]
    rw [e 0 (by omega), e 1 (by omega), e 2 (by omega), e 3 (by omega), e 4 (by omega), e 5 (by omega), e 6 (by omega), e 7 (by omega)]
    simp only [cnt, Nat.add_zero]
    omega
theorem pops_flip (m : List UInt8) (x p K : Nat) (h : x + K ≤ 8 * m.length) : pops (flipK m x p K) m m.length = cnt (fun i => p.testBit i) K := by
  rw [pops_cnt]
  have e : (fun y => bt (flipK m x p K) y ^^ bt m y) = fun y => decide (x ≤ y ∧ y < x + K) && p.testBit (y - x) := by
    funext y
    rw [bt_flip _ _ _ _ h]
    cases bt m y <;> simp
  rw [e, show 8 * m.length = x + (8 * m.length - x) from by omega, cnt_window, show min (8 * m.length - x) K = K from by omega]
/-- One turned bit, as the law looks at it. -/
theorem flip_bit (m : List UInt8) (x p K i : Nat) (h : x + K ≤ 8 * m.length) (hi : i < K) (hp : p.testBit i = true) :
    ((((flipK m x p K).getD ((x + i) / 8) 0 ^^^ m.getD ((x + i) / 8) 0).toNat / 2 ^ ((x + i) % 8)) % 2 == 1) = true := by
  have h1 := bt_flip m x p K h (x + i)
  rw [decide_eq_true (show x ≤ x + i ∧ x + i < x + K by omega), show x + i - x = i from by omega, hp] at h1
  have h2 : ((flipK m x p K).getD ((x + i) / 8) 0 ^^^ m.getD ((x + i) / 8) 0).toNat.testBit ((x + i) % 8) = true := by
    rw [UInt8.toNat_xor, Nat.testBit_xor]
    show (bt (flipK m x p K) (x + i) ^^ bt m (x + i)) = true
    rw [h1]
    cases bt m (x + i) <;> rfl
  rw [Nat.testBit_eq_decide_div_mod_eq] at h2
  simpa using h2
/-- One bit fewer. -/
theorem less_one (x : UInt8) (h : 0 < x.toNat) : ∃ y : UInt8, bits BinOp.and IntKind.u8 (x.toNat : Int) ((x.toNat : Int) - 1) = (y.toNat : Int) ∧ Lib.onesCount y.toNat + 1 = Lib.onesCount x.toNat ∧ y.toNat < x.toNat := by
  have key : ∀ n : Fin 256, 0 < n.val → (bits BinOp.and IntKind.u8 (n.val : Int) ((n.val : Int) - 1) = ((n.val.toUInt8 &&& (n.val.toUInt8 - 1)).toNat : Int) ∧ Lib.onesCount (n.val.toUInt8 &&& (n.val.toUInt8 - 1)).toNat + 1 = Lib.onesCount n.val ∧ (n.val.toUInt8 &&& (n.val.toUInt8 - 1)).toNat < n.val) := by decide +kernel
  exact ⟨_, key ⟨x.toNat, x.toNat_lt⟩ h⟩
theorem xor_bytes (a b : UInt8) : bits BinOp.xor IntKind.u8 (a.toNat : Int) (b.toNat : Int) = ((a ^^^ b).toNat : Int) := by
  rw [u8_xor_nat _ _ a.toNat_lt b.toNat_lt, UInt8.toNat_xor]
end Go.Proofs.Ytbjffjplpnnhoaa
