/-
  The walks of the law's own small functions over disks (layer 4).
-/
import Derived.Test.YtbjffjplpnnhoaaDkF
namespace Go.Proofs.Ytbjffjplpnnhoaa
set_option linter.unusedVariables false
set_option linter.unusedSimpArgs false
open Go.RowKit

set_option maxRecDepth 100000 in
theorem lSame_any {w : World} {v1 v2 : Value} {l1 l2 : List UInt8} (h1 : BytesAt w v1 l1) (h2 : BytesAt w v2 l2) :
    Calls Try.prog 17 #[v1, v2] w fun e w' => e = .returned (.bool (l1 == l2)) ∧ Keeps [] w w' := by
  obtain ⟨a1, c1, rfl, hc1, hm1⟩ := h1.form
  obtain ⟨a2, c2, rfl, hc2, hm2⟩ := h2.form
  unfold maxLen at hm1 hm2
  by_cases hl : l1.length = l2.length
  · have hb : ((l1.length : Int) != l2.length) = false := by simp; omega
    go_enter Try.func17, Try.ntmps17
    go_wp2_with fail
    go_loopw [5] (fun i wr => ∃ k : Nat, k ≤ l1.length ∧ i = .int .i64 k ∧ l1.take k = l2.take k ∧ Keeps [] w wr) (fun i _ => l1.length - (intOf i).toNat)
    case atStart => exact ⟨0, Nat.zero_le _, rfl, by simp, Keeps.refl _ _⟩
    case round =>
      obtain ⟨k, hk, rfl, heq, hkr⟩ := hrel
      by_cases hlt : k < l1.length
      · obtain ⟨g1, o1, rfl, hg1, hr1⟩ : ∃ g o, a1 = some ⟨g, o, none⟩ ∧ g < w.heap.size ∧ w.rangeAt g o (l1.map B) := by
          rcases h1 with ⟨h0, _⟩ | ⟨g, o, cap, hv, _, _, h3, h4⟩
          · subst h0; simp at hlt
          · injection hv with e _ _
            exact ⟨g, o, e, h3, h4⟩
        obtain ⟨g2, o2, rfl, hg2, hr2⟩ : ∃ g o, a2 = some ⟨g, o, none⟩ ∧ g < w.heap.size ∧ w.rangeAt g o (l2.map B) := by
          rcases h2 with ⟨h0, _⟩ | ⟨g, o, cap, hv, _, _, h3, h4⟩
          · subst h0; simp only [List.length_nil] at hl; omega
          · injection hv with e _ _
            exact ⟨g, o, e, h3, h4⟩
        have hlt2 : k < l2.length := by omega
        obtain ⟨x, hx⟩ : ∃ x, x = l1[k] := ⟨_, rfl⟩
        obtain ⟨y, hy⟩ : ∃ y, y = l2[k] := ⟨_, rfl⟩
        have e1 : wr.cell? ⟨g1, o1 + k, none⟩ = some (.int .u8 x.toNat) := by
          rw [World.cell?_of_block (w := w) (w' := wr) (a := ⟨g1, o1 + k, none⟩) (hkr.block g1 hg1 (by simp)), hx]
          exact hr1 k _ (by simp [hlt, B])
        have e2 : wr.cell? ⟨g2, o2 + k, none⟩ = some (.int .u8 y.toNat) := by
          rw [World.cell?_of_block (w := w) (w' := wr) (a := ⟨g2, o2 + k, none⟩) (hkr.block g2 hg2 (by simp)), hy]
          exact hr2 k _ (by simp [hlt2, B])
        have b0 : (0 : Int) ≤ (k : Int) := by omega
        have b1 : (k : Int) < (l1.length : Int) := by omega
        have b2 : (k : Int) < (l2.length : Int) := by omega
        have HX := Lib.hid hx
        have HY := Lib.hid hy
        have HE := Lib.hid heq
        have HL := Lib.hid hl
        clear hx hy heq hl h1 h2
        by_cases hxy : x = y
        · subst hxy
          have t1 : ((x.toNat : Int) != x.toNat) = false := by simp
          go_wp2_with fail
          go_quiet (fail)
          go_wp2_with fail
          go_roundw
          case rel =>
            refine ⟨k + 1, by omega, by go_num, ?_, hkr.drewN _⟩
            rw [List.take_succ_eq_append_getElem hlt, List.take_succ_eq_append_getElem hlt2, HE.out, ← HX.out, ← HY.out]
          case measure => simp [intOf]; omega
        · have t1 : ((x.toNat : Int) != y.toNat) = true := by
            simp only [bne_iff_ne, ne_eq]
            intro e
            exact hxy (UInt8.toNat_inj.1 (by omega))
          go_wp2_with fail
          go_quiet (fail)
          go_wp2_with fail
          go_ret
          refine ⟨?_, hkr.drewN _⟩
          have : l1 ≠ l2 := by
            rintro rfl
            exact hxy (HX.out.trans HY.out.symm)
          simp [this]
      · have e : k = l1.length := by omega
        have HE := Lib.hid heq
        have HL := Lib.hid hl
        clear heq hl
        go_wp2_with fail
        go_ret
        refine ⟨?_, hkr⟩
        have h := HE.out
        rw [e, List.take_length, HL.out, List.take_length] at h
        simp [h]
  · have hb : ((l1.length : Int) != l2.length) = true := by simp; omega
    go_enter Try.func17, Try.ntmps17
    go_wp2_with fail
    go_ret
    refine ⟨?_, Keeps.refl _ _⟩
    have : l1 ≠ l2 := by rintro rfl; exact hl rfl
    simp [this]

/-- A write as the statements have it: a page's number, four bytes. -/
structure Wr where
  page : Int
  fill : List UInt8
def Wr.ok (o : Wr) : Prop := o.fill.length = 4 ∧ -9223372036854775808 ≤ o.page ∧ o.page ≤ 9223372036854775807
def Wr.cells (o : Wr) : List Value := .int .i64 o.page :: o.fill.map B
def Wr.bytes (o : Wr) : List UInt8 := (List.range 256).map fun i => o.fill.getD (i / 64) 0

theorem emod_of_neg {p n : Int} (hn : 0 < n) (h : p.tmod n < 0) : p.tmod n + n = p % n := by
  have h1 := Int.emod_nonneg p (show n ≠ 0 by omega)
  have h2 := Int.emod_lt_of_pos p hn
  rw [Int.tmod_eq_emod] at h ⊢
  split at h
  · omega
  · rename_i hc; rw [if_neg hc]; omega
theorem emod_of_nonneg {p n : Int} (hn : 0 < n) (h : 0 ≤ p.tmod n) : p.tmod n = p % n := by
  have h1 := Int.emod_nonneg p (show n ≠ 0 by omega)
  have h2 := Int.emod_lt_of_pos p hn
  rw [Int.tmod_eq_emod] at h ⊢
  split at h
  · rename_i hc; rw [if_pos hc]; omega
  · omega

theorem lOf_any {w : World} (o : Wr) (ho : o.ok) (n : Nat) (h0 : 0 < n) (h1 : n ≤ 4096) :
    Calls Try.prog 18 #[.agg o.cells.toArray, .int .i64 n] w fun e w' => e = .returned (.int .i64 (o.page % n)) ∧ Keeps [] w w' := by
  obtain ⟨l0, l1, l2⟩ := ho
  obtain ⟨p, fill⟩ := o
  simp only at l0 l1 l2
  obtain ⟨a, b, c, d, rfl⟩ : ∃ a b c d, fill = [a, b, c, d] := by
    match fill, l0 with
    | [a, b, c, d], _ => exact ⟨a, b, c, d, rfl⟩
  have hn : (0 : Int) < (n : Int) := by omega
  have hn0 : ((n : Int) == 0) = false := by simp; omega
  have hr1 := Int.tmod_lt_of_pos p hn
  have hr2 : -(n : Int) < p.tmod n := by
    have := Int.lt_tmod_of_pos p hn
    omega
  simp only [Wr.cells, List.map_cons, List.map_nil]
  go_enter Try.func18, Try.ntmps18
  go_wp2_with fail
  · go_ret
    refine ⟨?_, (Keeps.refl _ _).alloc _⟩
    show Ending.returned (.int .i64 (p.tmod n + n)) = _
    rw [emod_of_neg hn (by assumption)]
  · go_ret
    refine ⟨?_, (Keeps.refl _ _).alloc _⟩
    show Ending.returned (.int .i64 (p.tmod n)) = _
    rw [emod_of_nonneg hn (by assumption)]

set_option maxRecDepth 100000 in
theorem lFilled_any {w : World} (o : Wr) (ho : o.ok) :
    Calls Try.prog 19 #[.agg o.cells.toArray] w fun e w' => ∃ g cap, e = .returned (.slice (some ⟨g, 0, none⟩) 256 cap) ∧ w.heap.size ≤ g ∧ OwnB w' (.slice (some ⟨g, 0, none⟩) 256 cap) o.bytes ∧ Keeps [] w w' := by
  obtain ⟨l0, l1, l2⟩ := ho
  obtain ⟨p, fill⟩ := o
  simp only at l0 l1 l2
  obtain ⟨a, b, c, d, rfl⟩ : ∃ a b c d, fill = [a, b, c, d] := by
    match fill, l0 with
    | [a, b, c, d], _ => exact ⟨a, b, c, d, rfl⟩
  obtain ⟨i0, hi, hz0, hz1, hz2⟩ := info_parts info_u8
  have hmk := run_make (P := Try.prog) (w.alloc (.cells #[.int .i64 p, B a, B b, B c, B d] 39)) 29 5 i0 _ Try.underlying29 hi hz0 .i64 .i64 256 256 (by omega) (by omega) (by rw [hz2]; omega) (by omega)
  have hz : madeCells (Value.int .u8 0).cells (Int.toNat 256 * i0.size) = (((List.replicate 256 (0 : UInt8))).map B).toArray := by
    rw [hz1, show (Value.int .u8 0).cells = Array.replicate 1 (.int .u8 0) from rfl, madeCells_same 1 _ _ (by omega)]
    simp only [List.map_replicate]
    rfl
  rw [hz] at hmk
  obtain ⟨Z, hZ⟩ : ∃ Z, Z = ((List.replicate 256 (0 : UInt8)).map B).toArray := ⟨_, rfl⟩
  rw [← hZ] at hmk
  simp only [show Int.toNat 256 = 256 from rfl] at hmk
  have HZ := Lib.hid hZ
  have HI := Lib.hid hi
  clear hi hz0 hz1 hz2 hZ hz
  obtain ⟨bs, hbs⟩ : ∃ bs, bs = Wr.bytes ⟨p, [a, b, c, d]⟩ := ⟨_, rfl⟩
  have hbl : bs.length = 256 := by rw [hbs]; simp [Wr.bytes]
  have hbk : ∀ k, k < 256 → bs[k]? = some ([a, b, c, d].getD (k / 64) 0) := fun k hk => by rw [hbs]; simp [Wr.bytes, hk]
  rw [← hbs]
  simp only [Wr.cells, List.map_cons, List.map_nil]
  have HB := Lib.hid hbs
  have HBK := Lib.hid hbk
  clear hbs hbk
  go_enter Try.func19, Try.ntmps19
  go_wp2_with fail
  go_loopw [4] (fun i wr => ∃ k : Nat, k ≤ 256 ∧ i = .int .i64 k ∧ wr.heap[w.heap.size]? = some (.cells #[.int .i64 p, B a, B b, B c, B d] 39 (0, 0)) ∧
      wr.heap[w.heap.size + 1]? = some (.cells ((bs.take k ++ List.replicate (256 - k) 0).map B).toArray 5 (0, 0)) ∧ Keeps [] w wr) (fun i _ => 256 - (intOf i).toNat)
  case atStart =>
    refine ⟨0, by omega, rfl, ?_, ?_, ((Keeps.refl _ _).alloc _).alloc _⟩
    · rw [heap_old_at (by simp), heap_new_at rfl]
    · rw [heap_new_at (by simp), HZ.out]
      simp
  case round =>
    obtain ⟨k, hk, rfl, hbox, hrow, hkr⟩ := hrel
    by_cases hlt : k < 256
    · have hcur : ((bs.take k ++ List.replicate (256 - k) 0)).length = 256 := by rw [List.length_append, List.length_take, List.length_replicate, hbl]; omega
      have g0 : wr.cell? ⟨w.heap.size, 1 + k / 64, none⟩ = some (B ([a, b, c, d].getD (k / 64) 0)) := by
        rw [cell_of_row _ _ _ _ _ _ hbox]
        have : k / 64 = 0 ∨ k / 64 = 1 ∨ k / 64 = 2 ∨ k / 64 = 3 := by omega
        rcases this with e | e | e | e <;> rw [e] <;> rfl
      obtain ⟨x, hx⟩ : ∃ x, x = [a, b, c, d].getD (k / 64) 0 := ⟨_, rfl⟩
      rw [← hx] at g0
      unfold B at g0
      obtain ⟨y, hy⟩ : ∃ y, wr.cell? ⟨w.heap.size + 1, k, none⟩ = some y := by
        rw [cell_of_row _ _ _ _ _ _ hrow]
        exact ⟨_, by rw [List.getElem?_toArray, List.getElem?_map, List.getElem?_eq_getElem (by omega)]; rfl⟩
      have f1 : wr.frozen? ⟨w.heap.size + 1, k, none⟩ = false := frozen_of_row _ _ _ _ _ hrow
      have HX := Lib.hid hx
      have HR := Lib.hid hrow
      have HBX := Lib.hid hbox
      have b0 : (0 : Int) ≤ (k : Int) := by omega
      have b1 : (k : Int) < 256 := by omega
      clear hx hrow hbox
      go_wp2_with fail
      go_roundw
      case rel =>
        refine ⟨k + 1, by omega, by go_num, ?_, ?_, hkr.setCell (.inr (by simp)) _⟩
        · rw [Below.heap_setCell _ _ _ _ (by simp)]; exact HBX.out
        · have h := heap_setCell_same wr (w.heap.size + 1) k _ _ (B x) HR.out
          rw [List.setIfInBounds_toArray, ← List.map_set] at h
          have e : (bs.take k ++ List.replicate (256 - k) 0).set k x = bs.take (k + 1) ++ List.replicate (256 - (k + 1)) 0 := by
            rw [List.set_append_right _ _ (by simp; omega), List.length_take, hbl, show k - min k 256 = 0 from by omega, show 256 - k = (256 - (k + 1)) + 1 from by omega, List.replicate_succ, List.set_cons_zero]
            rw [List.take_add_one, HBK.out k hlt, ← HX.out]
            simp
          rw [e] at h
          exact h
      case measure => simp [intOf]; omega
    · have e : k = 256 := by omega
      subst e
      have HR := Lib.hid hrow
      clear hrow hbox
      go_wp2_with fail
      go_ret
      refine ⟨w.heap.size + 1, 256, rfl, by omega, ?_, hkr⟩
      have h := HR.out
      rw [List.take_of_length_le (by omega), Nat.sub_self, List.replicate_zero, List.append_nil] at h
      refine ⟨by simp, .inr ⟨w.heap.size + 1, 256, _, by rw [hbl], Nat.zero_le _, h, by omega, by simp [maxLen], by simp [hbl], ?_⟩⟩
      simp [List.take_of_length_le, hbl]
end Go.Proofs.Ytbjffjplpnnhoaa
