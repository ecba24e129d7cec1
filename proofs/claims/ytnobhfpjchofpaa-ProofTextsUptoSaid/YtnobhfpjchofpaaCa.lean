/-
  Layer 12's bytes: a proof as a value; the count of set bits.
-/
import Derived.Test.YtnobhfpjchofpaaOwn
import Derived.Lib.Strings
import Derived.Lib.Slices
import Derived.Lib.Small
import Derived.Lib.Walk
import Derived.Lib.BitFns
namespace Go.Proofs.Ytnobhfpjchofpaa
set_option linter.unusedVariables false
set_option linter.unusedSimpArgs false
open Go.RowKit

/-- A proof. -/
structure Pf where
  found : Bool
  val : List UInt8
  bits : List UInt8
  sums : List (List UInt8)
/-- Its form in memory is kept: 32 bytes of bits, 32 bytes each sum. -/
def Pf.ok (p : Pf) : Prop := p.bits.length = 32 ∧ ∀ s ∈ p.sums, s.length = 32
/-- How many bits are set in these bytes. -/
def onesOf (l : List UInt8) : Nat := (l.map fun x => Lib.onesCount x.toNat).sum
def sumCells (l : List (List UInt8)) : List Value := l.flatMap fun s => s.map B
/-- v is a slice of digests that reads as l. -/
def SumsAt (w : World) (v : Value) (l : List (List UInt8)) : Prop :=
  (l = [] ∧ ∃ a c, v = .slice a 0 c ∧ c ≤ maxLen) ∨ ∃ g o cap, v = .slice (some ⟨g, o, none⟩) l.length cap ∧ l.length ≤ cap ∧ cap ≤ maxLen ∧ g < w.heap.size ∧ w.rangeAt g o (sumCells l)
/-- A proof's cells: of its lists what lies in a variable. -/
def pfCells (p : Pf) (vv sv : Value) : List Value := .bool p.found :: vv :: (p.bits.map B ++ [sv])

theorem onesCount_le (x : UInt8) : Lib.onesCount x.toNat ≤ 8 := Lib.onesCount_le8 ⟨x.toNat, show x.toNat < 256 from x.toNat_lt⟩
set_option maxRecDepth 100000 in
theorem onesCount8_int (x : Int) (w : World) (h0 : 0 ≤ x) (h1 : x ≤ 255) :
    Calls Try.prog 26 #[.int .u8 x] w fun e w' => e = .returned (.int .i64 (Lib.onesCount x.toNat)) ∧ w' = w := by
  rw [← Lib.pop8_int x h0 h1]
  go_enter Try.func26, Try.ntmps26
  go_wp2
  go_ret
  refine ⟨?_, rfl⟩
  show Ending.returned (.int .i64 (wrap64 (Lib.pop8 x))) = _
  unfold wrap64
  rfl
theorem onesCount8_any (x : UInt8) (w : World) {m : Nat} (hm : m = Lib.onesCount x.toNat) :
    Calls Try.prog 26 #[.int .u8 x.toNat] w fun e w' => e = .returned (.int .i64 m) ∧ w = w' := by
  have h := x.toNat_lt
  have h := onesCount8_int x.toNat w (by omega) (by omega)
  rw [Int.toNat_natCast, ← hm] at h
  refine h.mono ?_
  rintro e w' ⟨he, hw⟩
  exact ⟨he, hw.symm⟩
theorem onesOf_take (l : List UInt8) (k : Nat) (h : k < l.length) : onesOf (l.take (k + 1)) = onesOf (l.take k) + Lib.onesCount l[k].toNat := by
  unfold onesOf
  rw [List.take_succ_eq_append_getElem h, List.map_append, List.sum_append]
  simp
theorem onesOf_le (l : List UInt8) : onesOf l ≤ 8 * l.length := by
  unfold onesOf
  induction l with
  | nil => simp
  | cons x l ih => have := onesCount_le x; simp only [List.map_cons, List.sum_cons, List.length_cons] at ih ⊢; omega

theorem size_32 : (Try.prog.info? 27).map (·.size) = some 32 := by kernel_rfl
theorem size_32_of {l : List UInt8} (h : l.length = 32) : (Try.prog.info? 27).map (·.size) = some (l.map B).length := by rw [size_32, List.length_map, h]

theorem isAgg_u8 (w : World) : (isAgg 5).run Try.prog w = .ok false w := by kernel_rfl
theorem sizeOf_u8 (w : World) : (sizeOf 5).run Try.prog w = .ok 1 w := by kernel_rfl
/-- An array of bytes by value, read at an index. -/
theorem run_index_bytes {t : TypeId} {n : Nat} (hu : Try.prog.underlying t = some (.array n 5)) {bs : List UInt8} (hl : bs.length = n) {k : Nat} (hk : k < n) {x : UInt8} (hx : bs[k]? = some x) (w : World) :
    (Instr.index t (.agg (bs.map B).toArray) (.int .i64 k)).run Try.prog w = .ok (.int .u8 x.toNat) w := by
  have h0 : (0 : Int) ≤ (k : Int) := by omega
  have h1 : (k : Int) < (n : Int) := by omega
  simp only [Instr.index, asIntOf, run_underlying hu, Sem.run_bind, Sem.run_pure, Result.andThen_ok, h0, h1, and_self, if_true, sizeOf_u8, part, isAgg_u8, Int.toNat_natCast, Nat.mul_one]
  simp [List.getElem?_toArray, hx, B]

set_option maxRecDepth 100000 in
theorem ones_any {w : World} (bs : List UInt8) (hl : bs.length = 32) :
    Calls Try.prog 20 #[.agg (bs.map B).toArray] w fun e w' => e = .returned (.int .i64 (onesOf bs)) ∧ Keeps [] w w' := by
  have HL := Lib.hid hl
  have HR := Lib.hid (rangeAt_all (heap_new_at (w := w) (o := .cells (bs.map B).toArray 27 (0, 0)) rfl))
  have HS := Lib.hid (size_32_of hl)
  clear hl
  go_enter Try.func20, Try.ntmps20
  go_wp2_with (refine wpList_load_mid rfl 27 (.tmp 1) rfl w.heap.size 0 (by rfl) (bs.map B) _ HR.out Try.underlying27 rfl HS.out ?_)
  go_loopw [3, 7] (fun s i wr => ∃ k : Nat, k ≤ 32 ∧ i = .int .i64 k ∧ ∃ m : Nat, m = onesOf (bs.take k) ∧ s = .int .i64 m ∧ wr = w.alloc (.cells (bs.map B).toArray 27)) (fun s i _ => 32 - (intOf i).toNat)
  case atStart => exact ⟨0, by omega, rfl, 0, rfl, rfl, rfl⟩
  case round =>
    obtain ⟨k, hk, rfl, m, hm, rfl, rfl⟩ := hrel
    have hb := onesOf_le (bs.take k)
    rw [List.length_take, ← hm] at hb
    have HM := Lib.hid hm
    clear hm
    by_cases hlt : k < 32
    · obtain ⟨x, hx⟩ : ∃ x, x = bs[k]'(by rw [HL.out]; exact hlt) := ⟨_, rfl⟩
      have hi := run_index_bytes Try.underlying27 HL.out hlt (show bs[k]? = some x by rw [hx]; exact List.getElem?_eq_getElem _) (w.alloc (.cells (bs.map B).toArray 27))
      have h8 := onesCount_le x
      obtain ⟨c, hc⟩ : ∃ c, c = Lib.onesCount x.toNat := ⟨_, rfl⟩
      rw [← hc] at h8
      have HC := Lib.hid hc
      have HX := Lib.hid hx
      clear hx hc
      go_wp2_with fail
      refine (onesCount8_any x _ HC.out).mono ?_
      rintro e w' ⟨rfl, rfl⟩
      go_wp2_with fail
      go_roundw
      case rel =>
        refine ⟨k + 1, by omega, by go_num, m + c, ?_, by go_num, trivial⟩
        rw [onesOf_take _ _ (by rw [HL.out]; exact hlt), ← HX.out, HM.out, HC.out]
      case measure => simp [intOf]; omega
    · have e : k = 32 := by omega
      subst e
      go_wp2_with fail
      go_ret
      refine ⟨?_, (Keeps.refl _ _).alloc _⟩
      have h := HM.out
      rw [List.take_of_length_le (by rw [HL.out]; omega)] at h
      show Ending.returned (.int .i64 m) = _
      rw [h]
end Go.Proofs.Ytnobhfpjchofpaa
