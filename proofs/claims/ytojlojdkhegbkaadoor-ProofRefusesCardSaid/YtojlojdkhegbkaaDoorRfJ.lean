/-
  Lemmas of a claim, bundle J: XCa XCb XCc.
-/
import Derived.Lib.Strings
import Derived.Lib.Slices
import Derived.Lib.Small
import Derived.Lib.Walk
import Derived.Lib.BitFns
import Derived.Test.YtojlojdkhegbkaaDoorRfB
/-
  Layer 12's bytes: a proof as a value; the count of set bits.
-/
namespace Go.Proofs.YtojlojdkhegbkaaDoor
set_option linter.unusedVariables false
set_option linter.unusedSimpArgs false
open Go.RowKit

/-- A proof. -/
structure Pf where
  found : Bool
  val : List UInt8
  bits : List UInt8
  sums : List (List UInt8)
/-- Its form in memory is kept: 32 bytes of bits, 32 bytes each sum. -/
def Pf.ok (p : Pf) : Prop := p.bits.length = 32 ∧ ∀ s ∈ p.sums, s.length = 32
/-- How many bits are set in these bytes. -/
def onesOf (l : List UInt8) : Nat := (l.map fun x => Lib.onesCount x.toNat).sum
def sumCells (l : List (List UInt8)) : List Value := l.flatMap fun s => s.map B
/-- v is a slice of digests that reads as l. -/
def SumsAt (w : World) (v : Value) (l : List (List UInt8)) : Prop :=
  (l = [] ∧ ∃ a c, v = .slice a 0 c ∧ c ≤ maxLen) ∨ ∃ g o cap, v = .slice (some ⟨g, o, none⟩) l.length cap ∧ l.length ≤ cap ∧ cap ≤ maxLen ∧ g < w.heap.size ∧ w.rangeAt g o (sumCells l)
/-- A proof's cells: of its lists what lies in a variable. -/
def pfCells (p : Pf) (vv sv : Value) : List Value := .bool p.found :: vv :: (p.bits.map B ++ [sv])

theorem onesCount_le (x : UInt8) : Lib.onesCount x.toNat ≤ 8 := Lib.onesCount_le8 ⟨x.toNat, show x.toNat < 256 from x.toNat_lt⟩
theorem onesOf_take (l : List UInt8) (k : Nat) (h : k < l.length) : onesOf (l.take (k + 1)) = onesOf (l.take k) + Lib.onesCount l[k].toNat := by
  unfold onesOf
  rw [List.take_succ_eq_append_getElem h, List.map_append, List.sum_append]
  simp
theorem onesOf_le (l : List UInt8) : onesOf l ≤ 8 * l.length := by
  unfold onesOf
  induction l with
  | nil => simp
  | cons x l ih => have := onesCount_le x; simp only [List.map_cons, List.sum_cons, List.length_cons] at ih ⊢; omega

theorem size_32 : (Tryd.prog.info? 22).map (·.size) = some 32 := by kernel_rfl
theorem size_32_of {l : List UInt8} (h : l.length = 32) : (Tryd.prog.info? 22).map (·.size) = some (l.map B).length := by rw [size_32, List.length_map, h]

/-- An array of bytes by value, read at an index. -/
theorem run_index_bytes {t : TypeId} {n : Nat} (hu : Tryd.prog.underlying t = some (.array n 5)) {bs : List UInt8} (hl : bs.length = n) {k : Nat} (hk : k < n) {x : UInt8} (hx : bs[k]? = some x) (w : World) :
    (Instr.index t (.agg (bs.map B).toArray) (.int .i64 k)).run Tryd.prog w = .ok (.int .u8 x.toNat) w := by
  have h0 : (0 : Int) ≤ (k : Int) := by omega
  have h1 : (k : Int) < (n : Int) := by omega
  simp only [Instr.index, asIntOf, run_underlying hu, Sem.run_bind, Sem.run_pure, Result.andThen_ok, h0, h1, and_self, if_true, sizeOf_u8, part, isAgg_u8, Int.toNat_natCast, Nat.mul_one]
  simp [List.getElem?_toArray, hx, B]

end Go.Proofs.YtojlojdkhegbkaaDoor

/-
  Layer 12's law: the walks of its small functions: sameBytes, copyBytes, bit, well.
-/
namespace Go.Proofs.YtojlojdkhegbkaaDoor
set_option linter.unusedVariables false
set_option linter.unusedSimpArgs false
open Go.RowKit

set_option maxRecDepth 100000 in
theorem sameBytes_any {w : World} {v1 v2 : Value} {l1 l2 : List UInt8} (h1 : BytesAt w v1 l1) (h2 : BytesAt w v2 l2) :
    Calls Tryd.prog 20 #[v1, v2] w fun e w' => e = .returned (.bool (l1 == l2)) ∧ Keeps [] w w' := by
  obtain ⟨a1, c1, rfl, hc1, hm1⟩ := h1.form
  obtain ⟨a2, c2, rfl, hc2, hm2⟩ := h2.form
  unfold maxLen at hm1 hm2
  by_cases hl : l1.length = l2.length
  · have hb : ((l1.length : Int) != l2.length) = false := by simp; omega
    go_enter Tryd.func20, Tryd.ntmps20
    go_wp2_with fail
    go_loopw [5] (fun i wr => ∃ k : Nat, k ≤ l1.length ∧ i = .int .i64 k ∧ l1.take k = l2.take k ∧ Keeps [] w wr) (fun i _ => l1.length - (intOf i).toNat)
    case atStart => exact ⟨0, Nat.zero_le _, rfl, by simp, Keeps.refl _ _⟩
    case round =>
      obtain ⟨k, hk, rfl, heq, hkr⟩ := hrel
      by_cases hlt : k < l1.length
      · obtain ⟨g1, o1, rfl, hg1, hr1⟩ : ∃ g o, a1 = some ⟨g, o, none⟩ ∧ g < w.heap.size ∧ w.rangeAt g o (l1.map B) := by
          rcases h1 with ⟨h0, _⟩ | ⟨g, o, cap, hv, _, _, h3, h4⟩
          · subst h0; simp at hlt
          · injection hv with e _ _
            exact ⟨g, o, e, h3, h4⟩
        obtain ⟨g2, o2, rfl, hg2, hr2⟩ : ∃ g o, a2 = some ⟨g, o, none⟩ ∧ g < w.heap.size ∧ w.rangeAt g o (l2.map B) := by
          rcases h2 with ⟨h0, _⟩ | ⟨g, o, cap, hv, _, _, h3, h4⟩
          · subst h0; simp only [List.length_nil] at hl; omega
          · injection hv with e _ _
            exact ⟨g, o, e, h3, h4⟩
        have hlt2 : k < l2.length := by omega
        obtain ⟨x, hx⟩ : ∃ x, x = l1[k] := ⟨_, rfl⟩
        obtain ⟨y, hy⟩ : ∃ y, y = l2[k] := ⟨_, rfl⟩
        have e1 : wr.cell? ⟨g1, o1 + k, none⟩ = some (.int .u8 x.toNat) := by
          rw [World.cell?_of_block (w := w) (w' := wr) (a := ⟨g1, o1 + k, none⟩) (hkr.block g1 hg1 (by simp)), hx]
          exact hr1 k _ (by simp [hlt, B])
        have e2 : wr.cell? ⟨g2, o2 + k, none⟩ = some (.int .u8 y.toNat) := by
          rw [World.cell?_of_block (w := w) (w' := wr) (a := ⟨g2, o2 + k, none⟩) (hkr.block g2 hg2 (by simp)), hy]
          exact hr2 k _ (by simp [hlt2, B])
        have b0 : (0 : Int) ≤ (k : Int) := by omega
        have b1 : (k : Int) < (l1.length : Int) := by omega
        have b2 : (k : Int) < (l2.length : Int) := by omega
        have HX := Lib.hid hx
        have HY := Lib.hid hy
        have HE := Lib.hid heq
        have HL := Lib.hid hl
        clear hx hy heq hl h1 h2
        by_cases hxy : x = y
        · subst hxy
          have t1 : ((x.toNat : Int) != x.toNat) = false := by simp
          go_wp2_with fail
          go_quiet (fail)
          go_wp2_with fail
          go_roundw
          case rel =>
            refine ⟨k + 1, by omega, by go_num, ?_, hkr.drewN _⟩
            rw [List.take_succ_eq_append_getElem hlt, List.take_succ_eq_append_getElem hlt2, HE.out, ← HX.out, ← HY.out]
          case measure => simp [intOf]; omega
        · have t1 : ((x.toNat : Int) != y.toNat) = true := by
            simp only [bne_iff_ne, ne_eq]
            intro e
            exact hxy (UInt8.toNat_inj.1 (by omega))
          go_wp2_with fail
          go_quiet (fail)
          go_wp2_with fail
          go_ret
          refine ⟨?_, hkr.drewN _⟩
          have : l1 ≠ l2 := by
            rintro rfl
            exact hxy (HX.out.trans HY.out.symm)
          simp [this]
      · have e : k = l1.length := by omega
        have HE := Lib.hid heq
        have HL := Lib.hid hl
        clear heq hl
        go_wp2_with fail
        go_ret
        refine ⟨?_, hkr⟩
        have h := HE.out
        rw [e, List.take_length, HL.out, List.take_length] at h
        simp [h]
  · have hb : ((l1.length : Int) != l2.length) = true := by simp; omega
    go_enter Tryd.func20, Tryd.ntmps20
    go_wp2_with fail
    go_ret
    refine ⟨?_, Keeps.refl _ _⟩
    have : l1 ≠ l2 := by rintro rfl; exact hl rfl
    simp [this]


/-! ### bits -/
/-- Bit h of these bytes. -/
def bitAt (bs : List UInt8) (h : Nat) : Bool := (bs.getD (h / 8) 0).toNat / 2 ^ (h % 8) % 2 == 1
theorem and_one (n j : Nat) (hn : n < 256) (hj : j < 8) : (bits BinOp.and IntKind.u8 ((n : Int) / 2 ^ j) 1 == 1) = (n / 2 ^ j % 2 == 1) := by
  have key : ∀ (x : Fin 256) (j : Fin 8), (bits BinOp.and IntKind.u8 ((x.val : Int) / 2 ^ j.val) 1 == 1) = (x.val / 2 ^ j.val % 2 == 1) := by decide +kernel
  exact key ⟨n, hn⟩ ⟨j, hj⟩
theorem pf_bit_cell {w : World} {b : Nat} {p : Pf} {vv sv : Value} {t : TypeId} (h : w.heap[b]? = some (.cells (pfCells p vv sv).toArray t (0, 0))) (hl : p.bits.length = 32) {k : Nat} (hk : k < 32) {x : UInt8} (hx : p.bits[k]? = some x) :
    w.cell? ⟨b, 2 + k, none⟩ = some (.int .u8 x.toNat) := by
  rw [cell_of_row w b _ _ _ _ h, List.getElem?_toArray, pfCells, show 2 + k = k + 1 + 1 from by omega, List.getElem?_cons_succ, List.getElem?_cons_succ, List.getElem?_append_left (by rw [List.length_map, hl]; exact hk), List.getElem?_map, hx]
  rfl
theorem pf_cells {w : World} {b : Nat} {p : Pf} {vv sv : Value} {t : TypeId} (h : w.heap[b]? = some (.cells (pfCells p vv sv).toArray t (0, 0))) (hl : p.bits.length = 32) :
    w.cell? ⟨b, 0, none⟩ = some (.bool p.found) ∧ w.cell? ⟨b, 1, none⟩ = some vv ∧ w.cell? ⟨b, 34, none⟩ = some sv := by
  refine ⟨by rw [cell_of_row w b _ _ _ _ h]; rfl, by rw [cell_of_row w b _ _ _ _ h]; rfl, ?_⟩
  rw [cell_of_row w b _ _ _ _ h, List.getElem?_toArray, pfCells, List.getElem?_cons_succ, List.getElem?_cons_succ, List.getElem?_append_right (by rw [List.length_map, hl]; exact Nat.le_refl _), List.length_map, hl]
  rfl

/-- How many of the first k bits are set. -/
def cntBits (bs : List UInt8) (k : Nat) : Nat := ((List.range k).filter (bitAt bs)).length
theorem cntBits_succ (bs : List UInt8) (k : Nat) : cntBits bs (k + 1) = cntBits bs k + if bitAt bs k then 1 else 0 := by
  unfold cntBits
  rw [List.range_succ, List.filter_append, List.length_append]
  cases h : bitAt bs k <;> simp [h]
theorem eight_bits (x : UInt8) : Lib.onesCount x.toNat = (if (x.toNat / 2 ^ 0 % 2 == 1) = true then 1 else 0) + (if (x.toNat / 2 ^ 1 % 2 == 1) = true then 1 else 0) + (if (x.toNat / 2 ^ 2 % 2 == 1) = true then 1 else 0) + (if (x.toNat / 2 ^ 3 % 2 == 1) = true then 1 else 0) +
    (if (x.toNat / 2 ^ 4 % 2 == 1) = true then 1 else 0) + (if (x.toNat / 2 ^ 5 % 2 == 1) = true then 1 else 0) + (if (x.toNat / 2 ^ 6 % 2 == 1) = true then 1 else 0) + (if (x.toNat / 2 ^ 7 % 2 == 1) = true then 1 else 0) := by
  have key : ∀ n : Fin 256, Lib.onesCount n.val = (if (n.val / 2 ^ 0 % 2 == 1) = true then 1 else 0) + (if (n.val / 2 ^ 1 % 2 == 1) = true then 1 else 0) + (if (n.val / 2 ^ 2 % 2 == 1) = true then 1 else 0) + (if (n.val / 2 ^ 3 % 2 == 1) = true then 1 else 0) +
    (if (n.val / 2 ^ 4 % 2 == 1) = true then 1 else 0) + (if (n.val / 2 ^ 5 % 2 == 1) = true then 1 else 0) + (if (n.val / 2 ^ 6 % 2 == 1) = true then 1 else 0) + (if (n.val / 2 ^ 7 % 2 == 1) = true then 1 else 0) := by decide +kernel
  exact key ⟨x.toNat, x.toNat_lt⟩
theorem bitAt_in (bs : List UInt8) (k i : Nat) (hi : i < 8) (hk : k < bs.length) : bitAt bs (8 * k + i) = (bs[k].toNat / 2 ^ i % 2 == 1) := by
  rw [bitAt, show (8 * k + i) / 8 = k from by omega, show (8 * k + i) % 8 = i from by omega, List.getD_eq_getElem?_getD, List.getElem?_eq_getElem hk]
  rfl
theorem cntBits_ones (bs : List UInt8) : ∀ k, k ≤ bs.length → cntBits bs (8 * k) = onesOf (bs.take k) := by
  intro k
  induction k with
  | zero => intro _; simp [cntBits, onesOf]
  | succ k ih =>
    intro h
    rw [onesOf_take _ _ h, ← ih (by omega), eight_bits, show 8 * (k + 1) = 8 * k + 7 + 1 from by omega]
    rw [cntBits_succ, cntBits_succ _ (8 * k + 6), cntBits_succ _ (8 * k + 5), cntBits_succ _ (8 * k + 4), cntBits_succ _ (8 * k + 3), cntBits_succ _ (8 * k + 2), cntBits_succ _ (8 * k + 1), cntBits_succ _ (8 * k)]
    have e0 := bitAt_in bs k 0 (by omega) h
    rw [Nat.add_zero] at e0
    rw [e0, bitAt_in bs k 1 (by omega) h, bitAt_in bs k 2 (by omega) h, bitAt_in bs k 3 (by omega) h, bitAt_in bs k 4 (by omega) h, bitAt_in bs k 5 (by omega) h, bitAt_in bs k 6 (by omega) h, bitAt_in bs k 7 (by omega) h]
    omega
end Go.Proofs.YtojlojdkhegbkaaDoor

/-
  Layer 12's law: the walk of well; proofs in memory.
-/
namespace Go.Proofs.YtojlojdkhegbkaaDoor
set_option linter.unusedVariables false
set_option linter.unusedSimpArgs false
open Go.RowKit

theorem SumsAt.form {w : World} {v : Value} {l : List (List UInt8)} (h : SumsAt w v l) : ∃ a c, v = .slice a l.length c ∧ l.length ≤ c ∧ c ≤ maxLen := by
  rcases h with ⟨rfl, a, c, rfl, hc⟩ | ⟨g, o, cap, rfl, h1, h2, _⟩
  · exact ⟨a, c, rfl, Nat.zero_le _, hc⟩
  · exact ⟨_, _, rfl, h1, h2⟩
theorem SumsAt.at {w : World} {a : Option Addr} {n c : Nat} {l : List (List UInt8)} (h : SumsAt w (.slice a n c) l) (hn : 0 < l.length) : ∃ g o, a = some ⟨g, o, none⟩ ∧ g < w.heap.size ∧ w.rangeAt g o (sumCells l) := by
  rcases h with ⟨h0, _⟩ | ⟨g, o, cap, hv, _, _, h3, h4⟩
  · subst h0; simp at hn
  · injection hv with e _ _
    exact ⟨g, o, e, h3, h4⟩
theorem SumsAt.of_heap {w w' : World} {v : Value} {l : List (List UInt8)} (h : SumsAt w v l) (hs : w.heap.size ≤ w'.heap.size) (hd : ∀ k, v.elemBlock = some k → k < w.heap.size → w'.heap[k]? = w.heap[k]?) : SumsAt w' v l := by
  rcases h with h | ⟨g, o, cap, rfl, h1, h2, h3, h4⟩
  · exact .inl h
  · match l with
    | [] => exact .inl ⟨rfl, _, _, rfl, h2⟩
    | x :: l => exact .inr ⟨g, o, cap, rfl, h1, h2, Nat.lt_of_lt_of_le h3 hs, rangeAt_of_heap h4 (hd g rfl h3)⟩
theorem SumsAt.keeps {F : List Nat} {w w' : World} {v : Value} {l : List (List UInt8)} (h : SumsAt w v l) (hk : Keeps F w w') (hd : ∀ k, v.elemBlock = some k → k ∉ F) : SumsAt w' v l :=
  h.of_heap hk.size (fun k hk' hlt => hk.block k hlt (hd k hk'))
theorem SumsAt.below {n : Nat} {w w' : World} {v : Value} {l : List (List UInt8)} (h : SumsAt w v l) (hk : Below n w w') (hd : ∀ k, v.elemBlock = some k → k < n) : SumsAt w' v l :=
  h.of_heap hk.size (fun k hk' _ => hk.block k (hd k hk'))
theorem sum_at {l : List (List UInt8)} (hw : ∀ s ∈ l, s.length = 32) {k : Nat} (hk : k < l.length) : ∃ xs zs, sumCells l = xs ++ l[k].map B ++ zs ∧ xs.length = k * 32 := by
  have e : l = l.take k ++ l[k] :: l.drop (k + 1) := by simp
  have e2 := congrArg sumCells e
  simp only [sumCells, List.flatMap_append, List.flatMap_cons] at e2
  refine ⟨sumCells (l.take k), sumCells (l.drop (k + 1)), by unfold sumCells; rw [List.append_assoc]; exact e2, ?_⟩
  have : ∀ r : List (List UInt8), (∀ s ∈ r, s.length = 32) → (sumCells r).length = r.length * 32 := by
    intro r
    induction r with
    | nil => simp [sumCells]
    | cons x r ih =>
      intro h
      have h1 := ih (fun p hp => h p (by simp [hp]))
      have h2 := h x (by simp)
      simp only [sumCells, List.flatMap_cons, List.length_append, List.length_cons, List.length_map] at h1 ⊢
      omega
  rw [this _ (fun p hp => hw p (List.mem_of_mem_take hp))]
  simp
  omega
theorem range_part {w : World} {g o : Nat} {xs ys zs : List Value} (h : w.rangeAt g o (xs ++ ys ++ zs)) : w.rangeAt g (o + xs.length) ys := fun j v hv => by
  rw [Nat.add_assoc]
  refine h (xs.length + j) v ?_
  have hj := (List.getElem?_eq_some_iff.1 hv).1
  rw [List.getElem?_append_left (by simp; omega), List.getElem?_append_right (by omega)]
  simpa using hv
theorem SumsAt.row {w w' : World} {g o : Nat} {l : List (List UInt8)} (h : w.rangeAt g o (sumCells l)) (hw : ∀ s ∈ l, s.length = 32) {k : Nat} (hk : k < l.length) (hb : w'.heap[g]? = w.heap[g]?) : w'.rangeAt g (o + k * 32) (l[k].map B) := by
  obtain ⟨xs, zs, e, hl⟩ := sum_at hw hk
  rw [← hl]
  rw [e] at h
  exact rangeAt_of_heap (range_part h) hb

/-- v is a proof that reads as p. -/
def PfIn (w : World) (v : Value) (p : Pf) : Prop := ∃ vv sv, v = .agg (pfCells p vv sv).toArray ∧ BytesAt w vv p.val ∧ SumsAt w sv p.sums ∧ p.ok
theorem PfIn.keeps {w w' : World} {v : Value} {p : Pf} (h : PfIn w v p) (hk : Keeps [] w w') : PfIn w' v p := by
  obtain ⟨vv, sv, rfl, h1, h2, h3⟩ := h
  exact ⟨vv, sv, rfl, h1.keeps hk (by simp), h2.keeps hk (by simp), h3⟩
theorem PfIn.okp {w : World} {v : Value} {p : Pf} (h : PfIn w v p) : p.ok := by obtain ⟨_, _, _, _, _, h⟩ := h; exact h
theorem size_proof : (Tryd.prog.info? 28).map (·.size) = some 35 := by kernel_rfl
theorem pf_length {p : Pf} (h : p.bits.length = 32) (vv sv : Value) : (pfCells p vv sv).length = 35 := by simp [pfCells, h]
theorem size_pf {p : Pf} (h : p.bits.length = 32) (vv sv : Value) : (Tryd.prog.info? 28).map (·.size) = some (pfCells p vv sv).length := by rw [size_proof, pf_length h]

/-- Is it well formed? -/
def Pf.well (p : Pf) : Bool := (p.found || p.val.length == 0) && decide (p.val.length ≤ 128) && p.sums.length == onesOf p.bits

end Go.Proofs.YtojlojdkhegbkaaDoor
