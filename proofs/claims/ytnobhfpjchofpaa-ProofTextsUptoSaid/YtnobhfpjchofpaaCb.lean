/-
  Layer 12's law: the walks of its small functions: sameBytes, copyBytes, bit, well.
-/
import Derived.Test.YtnobhfpjchofpaaCa
namespace Go.Proofs.Ytnobhfpjchofpaa
set_option linter.unusedVariables false
set_option linter.unusedSimpArgs false
open Go.RowKit

set_option maxRecDepth 100000 in
theorem sameBytes_any {w : World} {v1 v2 : Value} {l1 l2 : List UInt8} (h1 : BytesAt w v1 l1) (h2 : BytesAt w v2 l2) :
    Calls Try.prog 15 #[v1, v2] w fun e w' => e = .returned (.bool (l1 == l2)) ∧ Keeps [] w w' := by
  obtain ⟨a1, c1, rfl, hc1, hm1⟩ := h1.form
  obtain ⟨a2, c2, rfl, hc2, hm2⟩ := h2.form
  unfold maxLen at hm1 hm2
  by_cases hl : l1.length = l2.length
  · have hb : ((l1.length : Int) != l2.length) = false := by simp; omega
    go_enter Try.func15, Try.ntmps15
    go_wp2_with fail
    go_loopw [5] (fun i wr => ∃ k : Nat, k ≤ l1.length ∧ i = .int .i64 k ∧ l1.take k = l2.take k ∧ Keeps [] w wr) (fun i _ => l1.length - (intOf i).toNat)
    case atStart => exact ⟨0, Nat.zero_le _, rfl, by simp, Keeps.refl _ _⟩
    case round =>
      obtain ⟨k, hk, rfl, heq, hkr⟩ := hrel
      by_cases hlt : k < l1.length
      · obtain ⟨g1, o1, rfl, hg1, hr1⟩ : ∃ g o, a1 = some ⟨g, o, none⟩ ∧ g < w.heap.size ∧ w.rangeAt g o (l1.map B) := by
          rcases h1 with ⟨h0, _⟩ | ⟨g, o, cap, hv, _, _, h3, h4⟩
          · subst h0; simp at hlt
          · injection hv with e _ _
            exact ⟨g, o, e, h3, h4⟩
        obtain ⟨g2, o2, rfl, hg2, hr2⟩ : ∃ g o, a2 = some ⟨g, o, none⟩ ∧ g < w.heap.size ∧ w.rangeAt g o (l2.map B) := by
          rcases h2 with ⟨h0, _⟩ | ⟨g, o, cap, hv, _, _, h3, h4⟩
          · subst h0; simp only [List.length_nil] at hl; omega
          · injection hv with e _ _
            exact ⟨g, o, e, h3, h4⟩
        have hlt2 : k < l2.length := by omega
        obtain ⟨x, hx⟩ : ∃ x, x = l1[k] := ⟨_, rfl⟩
        obtain ⟨y, hy⟩ : ∃ y, y = l2[k] := ⟨_, rfl⟩
        have e1 : wr.cell? ⟨g1, o1 + k, none⟩ = some (.int .u8 x.toNat) := by
          rw [World.cell?_of_block (w := w) (w' := wr) (a := ⟨g1, o1 + k, none⟩) (hkr.block g1 hg1 (by simp)), hx]
          exact hr1 k _ (by simp [hlt, B])
        have e2 : wr.cell? ⟨g2, o2 + k, none⟩ = some (.int .u8 y.toNat) := by
          rw [World.cell?_of_block (w := w) (w' := wr) (a := ⟨g2, o2 + k, none⟩) (hkr.block g2 hg2 (by simp)), hy]
          exact hr2 k _ (by simp [hlt2, B])
        have b0 : (0 : Int) ≤ (k : Int) := by omega
        have b1 : (k : Int) < (l1.length : Int) := by omega
        have b2 : (k : Int) < (l2.length : Int) := by omega
        have HX := Lib.hid hx
        have HY := Lib.hid hy
        have HE := Lib.hid heq
        have HL := Lib.hid hl
        clear hx hy heq hl h1 h2
        by_cases hxy : x = y
        · subst hxy
          have t1 : ((x.toNat : Int) != x.toNat) = false := by simp
          go_wp2_with fail
          go_quiet (fail)
          go_wp2_with fail
          go_roundw
          case rel =>
            refine ⟨k + 1, by omega, by go_num, ?_, hkr.drewN _⟩
            rw [List.take_succ_eq_append_getElem hlt, List.take_succ_eq_append_getElem hlt2, HE.out, ← HX.out, ← HY.out]
          case measure => simp [intOf]; omega
        · have t1 : ((x.toNat : Int) != y.toNat) = true := by
            simp only [bne_iff_ne, ne_eq]
            intro e
            exact hxy (UInt8.toNat_inj.1 (by omega))
          go_wp2_with fail
          go_quiet (fail)
          go_wp2_with fail
          go_ret
          refine ⟨?_, hkr.drewN _⟩
          have : l1 ≠ l2 := by
            rintro rfl
            exact hxy (HX.out.trans HY.out.symm)
          simp [this]
      · have e : k = l1.length := by omega
        have HE := Lib.hid heq
        have HL := Lib.hid hl
        clear heq hl
        go_wp2_with fail
        go_ret
        refine ⟨?_, hkr⟩
        have h := HE.out
        rw [e, List.take_length, HL.out, List.take_length] at h
        simp [h]
  · have hb : ((l1.length : Int) != l2.length) = true := by simp; omega
    go_enter Try.func15, Try.ntmps15
    go_wp2_with fail
    go_ret
    refine ⟨?_, Keeps.refl _ _⟩
    have : l1 ≠ l2 := by rintro rfl; exact hl rfl
    simp [this]


set_option maxRecDepth 100000 in
theorem copyBytes_any {w : World} {v : Value} {l : List UInt8} (hv : BytesAt w v l) (hl : l.length ≤ 2097152) :
    Calls Try.prog 16 #[v] w fun e w' => ∃ v', e = .returned v' ∧ OwnB w' v' l ∧ (∀ k, v'.ownBlock = some k → w.heap.size ≤ k) ∧ Keeps [] w w' := by
  obtain ⟨a, c, rfl, hc, hm⟩ := hv.form
  unfold maxLen at hm
  obtain ⟨i0, hi0, hz0, hz1, hz2⟩ := info_parts info_u8
  have HI0 := Lib.hid hi0
  have HZ0 := Lib.hid hz0
  have HZ1 := Lib.hid hz1
  have HZ2 := Lib.hid hz2
  have HV := Lib.hid hv
  clear hi0 hz0 hz1 hz2 hv
  go_enter Try.func16, Try.ntmps16
  go_wp2_with fail
  go_loopw [3, 4] (fun v i wr => ∃ k : Nat, k ≤ l.length ∧ i = .int .i64 k ∧ wr.ownsRow w.heap.size 5 1 v k ((l.take k).map B) ∧ Keeps [] w wr) (fun _ i _ => l.length - (intOf i).toNat)
  case atStart => exact ⟨0, Nat.zero_le _, rfl, World.ownsRow_nil _ _ _ _, Keeps.refl _ _⟩
  case round =>
    obtain ⟨k, hk, rfl, hown, hkr⟩ := hrel
    have hov := hown.lt
    have HOWN := Lib.hid hown
    have hsz := hkr.size
    clear hown
    by_cases hlt : k < l.length
    · obtain ⟨g, o, rfl, hg, hr⟩ := HV.out.at (by omega)
      obtain ⟨x, hx⟩ : ∃ x, l[k]? = some x := ⟨l[k], List.getElem?_eq_getElem hlt⟩
      have e1 := range_byte (w' := wr) hr (hkr.block g hg (by simp)) hx
      have b0 : (0 : Int) ≤ (k : Int) := by omega
      have b1 : (k : Int) < (l.length : Int) := by omega
      have HX := Lib.hid hx
      clear hx hr
      go_wp2_with (refine wpList_append_lies _ rfl (.tmp 11) (.tmp 16) 26 rfl w.heap.size 5 i0 (.int .u8 0) 1 1 Try.underlying26 HI0.out HZ0.out HZ1.out HZ2.out rfl (by omega) _ k _ rfl (HOWN.out.alloc _) ⟨wr.heap.size, 0, none⟩ 1 1 [.int .u8 x.toNat] rfl rfl (World.news_of_block (cs := #[.int .u8 x.toNat]) (t := 5) (fr := (0, 0)) (heap_new_at rfl)) (by simp [Value.oneCell']) (by omega) (by simp only [maxLen]; omega) (by omega) (by simp; omega) _ rfl ?_)
      intro g2 cap wn h1 h2 h3 h4
      go_wp2_with fail
      go_roundw
      case rel =>
        refine ⟨k + 1, by omega, by go_num, ?_, (hkr.alloc _).grown h2 (fun j hj => .inr (hov j hj).1)⟩
        rw [List.take_add_one, HX.out, List.map_append, List.map_take]
        exact h1
      case measure => simp [intOf]; omega
    · have e : k = l.length := by omega
      subst e
      go_wp2_with fail
      go_ret
      have h := HOWN.out
      rw [List.take_length] at h
      exact ⟨_, rfl, ownsRow_base h, fun j hj => (hov j hj).1, hkr⟩

/-! ### bits -/
/-- Bit h of these bytes. -/
def bitAt (bs : List UInt8) (h : Nat) : Bool := (bs.getD (h / 8) 0).toNat / 2 ^ (h % 8) % 2 == 1
theorem and_one (n j : Nat) (hn : n < 256) (hj : j < 8) : (bits BinOp.and IntKind.u8 ((n : Int) / 2 ^ j) 1 == 1) = (n / 2 ^ j % 2 == 1) := by
  have key : ∀ (x : Fin 256) (j : Fin 8), (bits BinOp.and IntKind.u8 ((x.val : Int) / 2 ^ j.val) 1 == 1) = (x.val / 2 ^ j.val % 2 == 1) := by decide +kernel
  exact key ⟨n, hn⟩ ⟨j, hj⟩
theorem pf_bit_cell {w : World} {b : Nat} {p : Pf} {vv sv : Value} {t : TypeId} (h : w.heap[b]? = some (.cells (pfCells p vv sv).toArray t (0, 0))) (hl : p.bits.length = 32) {k : Nat} (hk : k < 32) {x : UInt8} (hx : p.bits[k]? = some x) :
    w.cell? ⟨b, 2 + k, none⟩ = some (.int .u8 x.toNat) := by
  rw [cell_of_row w b _ _ _ _ h, List.getElem?_toArray, pfCells, show 2 + k = k + 1 + 1 from by omega, List.getElem?_cons_succ, List.getElem?_cons_succ, List.getElem?_append_left (by rw [List.length_map, hl]; exact hk), List.getElem?_map, hx]
  rfl
theorem pf_cells {w : World} {b : Nat} {p : Pf} {vv sv : Value} {t : TypeId} (h : w.heap[b]? = some (.cells (pfCells p vv sv).toArray t (0, 0))) (hl : p.bits.length = 32) :
    w.cell? ⟨b, 0, none⟩ = some (.bool p.found) ∧ w.cell? ⟨b, 1, none⟩ = some vv ∧ w.cell? ⟨b, 34, none⟩ = some sv := by
  refine ⟨by rw [cell_of_row w b _ _ _ _ h]; rfl, by rw [cell_of_row w b _ _ _ _ h]; rfl, ?_⟩
  rw [cell_of_row w b _ _ _ _ h, List.getElem?_toArray, pfCells, List.getElem?_cons_succ, List.getElem?_cons_succ, List.getElem?_append_right (by rw [List.length_map, hl]; exact Nat.le_refl _), List.length_map, hl]
  rfl

set_option maxRecDepth 100000 in
theorem bit_any {w : World} {p : Pf} (vv sv : Value) (hl : p.bits.length = 32) (h : Nat) (hh : h < 256) {b : Bool} (hb : bitAt p.bits h = b) :
    Calls Try.prog 21 #[.agg (pfCells p vv sv).toArray, .int .i64 h] w fun e w' => e = .returned (.bool b) ∧ Keeps [] w w' := by
  obtain ⟨x, hx⟩ : ∃ x, p.bits[h / 8]? = some x := ⟨p.bits[h / 8]'(by omega), List.getElem?_eq_getElem _⟩
  have e1 := pf_bit_cell (heap_new_at (w := w) (o := .cells (pfCells p vv sv).toArray 30 (0, 0)) rfl) hl (show h / 8 < 32 by omega) hx
  have e2 : (bits BinOp.and IntKind.u8 ((x.toNat : Int) / 2 ^ (h % 8)) 1 == 1) = b := by
    rw [and_one x.toNat (h % 8) x.toNat_lt (by omega), ← hb, bitAt, List.getD_eq_getElem?_getD, hx]
    rfl
  have b0 : (0 : Int) ≤ (h : Int) := by omega
  have b1 : (h : Int) < 256 := by omega
  have HX := Lib.hid hx
  have HL := Lib.hid hl
  have HB := Lib.hid hb
  clear hx hl hb
  go_enter Try.func21, Try.ntmps21
  go_wp2_with fail
  go_ret
  exact ⟨rfl, (Keeps.refl _ _).alloc _⟩

/-- How many of the first k bits are set. -/
def cntBits (bs : List UInt8) (k : Nat) : Nat := ((List.range k).filter (bitAt bs)).length
theorem cntBits_succ (bs : List UInt8) (k : Nat) : cntBits bs (k + 1) = cntBits bs k + if bitAt bs k then 1 else 0 := by
  unfold cntBits
  rw [List.range_succ, List.filter_append, List.length_append]
  cases h : bitAt bs k <;> simp [h]
theorem eight_bits (x : UInt8) : Lib.onesCount x.toNat = (if (x.toNat / 2 ^ 0 % 2 == 1) = true then 1 else 0) + (if (x.toNat / 2 ^ 1 % 2 == 1) = true then 1 else 0) + (if (x.toNat / 2 ^ 2 % 2 == 1) = true then 1 else 0) + (if (x.toNat / 2 ^ 3 % 2 == 1) = true then 1 else 0) +
    (if (x.toNat / 2 ^ 4 % 2 == 1) = true then 1 else 0) + (if (x.toNat / 2 ^ 5 % 2 == 1) = true then 1 else 0) + (if (x.toNat / 2 ^ 6 % 2 == 1) = true then 1 else 0) + (if (x.toNat / 2 ^ 7 % 2 == 1) = true then 1 else 0) := by
  have key : ∀ n : Fin 256, Lib.onesCount n.val = (if (n.val / 2 ^ 0 % 2 == 1) = true then 1 else 0) + (if (n.val / 2 ^ 1 % 2 == 1) = true then 1 else 0) + (if (n.val / 2 ^ 2 % 2 == 1) = true then 1 else 0) + (if (n.val / 2 ^ 3 % 2 == 1) = true then 1 else 0) +
    (if (n.val / 2 ^ 4 % 2 == 1) = true then 1 else 0) + (if (n.val / 2 ^ 5 % 2 == 1) = true then 1 else 0) + (if (n.val / 2 ^ 6 % 2 == 1) = true then 1 else 0) + (if (n.val / 2 ^ 7 % 2 == 1) = true then 1 else 0) := by decide +kernel
  exact key ⟨x.toNat, x.toNat_lt⟩
theorem bitAt_in (bs : List UInt8) (k i : Nat) (hi : i < 8) (hk : k < bs.length) : bitAt bs (8 * k + i) = (bs[k].toNat / 2 ^ i % 2 == 1) := by
  rw [bitAt, show (8 * k + i) / 8 = k from by omega, show (8 * k + i) % 8 = i from by omega, List.getD_eq_getElem?_getD, List.getElem?_eq_getElem hk]
  rfl
theorem cntBits_ones (bs : List UInt8) : ∀ k, k ≤ bs.length → cntBits bs (8 * k) = onesOf (bs.take k) := by
  intro k
  induction k with
  | zero => intro _; simp [cntBits, onesOf]
  | succ k ih =>
    intro h
    rw [onesOf_take _ _ h, ← ih (by omega), eight_bits, show 8 * (k + 1) = 8 * k + 7 + 1 from by omega]
    rw [cntBits_succ, cntBits_succ _ (8 * k + 6), cntBits_succ _ (8 * k + 5), cntBits_succ _ (8 * k + 4), cntBits_succ _ (8 * k + 3), cntBits_succ _ (8 * k + 2), cntBits_succ _ (8 * k + 1), cntBits_succ _ (8 * k)]
    have e0 := bitAt_in bs k 0 (by omega) h
    rw [Nat.add_zero] at e0
    rw [e0, bitAt_in bs k 1 (by omega) h, bitAt_in bs k 2 (by omega) h, bitAt_in bs k 3 (by omega) h, bitAt_in bs k 4 (by omega) h, bitAt_in bs k 5 (by omega) h, bitAt_in bs k 6 (by omega) h, bitAt_in bs k 7 (by omega) h]
    omega
end Go.Proofs.Ytnobhfpjchofpaa
