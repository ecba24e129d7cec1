/-
  Package proof: the reader's take and number.
-/
import Derived.Test.YtnobhfpjchofpaaCf
import Derived.Test.YtnobhfpjchofpaaApp
namespace Go.Proofs.Ytnobhfpjchofpaa
set_option linter.unusedVariables false
set_option linter.unusedSimpArgs false
open Go.RowKit

theorem add0 (a : Addr) : a.add 0 = a := by unfold Addr.add; simp
theorem map_add0 (a : Option Addr) : a.map (fun x => x.add 0) = a := by cases a <;> simp [add0]
theorem run_slice_to (w : World) (a : Option Addr) (len cap n : Nat) (hn : n ≤ cap) :
    (Instr.sliceAt 26 (.slice a len cap) none (some (.int .i64 n)) (some (.int .i64 n))).run Try.prog w = .ok (.slice a n n) w := by
  have h0 : (0 : Int) ≤ (n : Int) := by omega
  have h1 : (n : Int) ≤ (cap : Int) := by omega
  simp [Instr.sliceAt, Instr.slice, run_underlying Try.underlying26, Instr.sliceBounds, run_sliceBound, h0, h1, sizeOf_u8, add0, Result.andThen]
  try (intro _; cases a <;> simp [add0])
theorem run_slice_from (w : World) (a : Option Addr) (len cap n : Nat) (hn : n ≤ len) (hc : len ≤ cap) :
    (Instr.sliceAt 26 (.slice a len cap) (some (.int .i64 n)) none none).run Try.prog w = .ok (sliced a n len cap 1) w := by
  have h0 : (0 : Int) ≤ (n : Int) := by omega
  have h1 : (n : Int) ≤ (len : Int) := by omega
  have h2 : (len : Int) ≤ (cap : Int) := by omega
  simp [Instr.sliceAt, Instr.slice, run_underlying Try.underlying26, Instr.sliceBounds, run_sliceBound, h0, h1, h2, sizeOf_u8, Result.andThen, sliced]
theorem bytes_front {w : World} {a : Option Addr} {cap n : Nat} {l : List UInt8} (h : BytesAt w (.slice a l.length cap) l) (hn : n ≤ l.length) : BytesAt w (.slice a n n) (l.take n) := by
  have hl : (l.take n).length = n := by rw [List.length_take]; omega
  rcases h with ⟨rfl, a', c', hv, hc⟩ | ⟨g, o, c', hv, h1, h2, h3, h4⟩
  · simp at hn
    subst hn
    exact .inl ⟨rfl, _, _, rfl, by simp [maxLen]⟩
  · injection hv with e _ _
    subst e
    refine .inr ⟨g, o, n, by rw [hl], by omega, by omega, h3, fun j u hu => h4 j u ?_⟩
    rw [List.getElem?_map, List.getElem?_take] at hu
    split at hu
    · rwa [List.getElem?_map]
    · simp at hu
theorem bytes_back {w : World} {a : Option Addr} {cap n : Nat} {l : List UInt8} (h : BytesAt w (.slice a l.length cap) l) (hn : n ≤ l.length) (hm : cap ≤ maxLen) : BytesAt w (sliced a n l.length cap 1) (l.drop n) := by
  have hl : (l.drop n).length = l.length - n := List.length_drop
  by_cases e : n = l.length
  · subst e
    rw [List.drop_length]
    exact .inl ⟨rfl, _, cap - l.length, by unfold sliced; rw [Nat.sub_self], by omega⟩
  · rcases h with ⟨rfl, a', c', hv, hc⟩ | ⟨g, o, c', hv, h1, h2, h3, h4⟩
    · simp at hn e; omega
    · injection hv with e1 _ e3
      subst e1 e3
      have hne : cap ≠ n := by omega
      refine .inr ⟨g, o + n, cap - n, ?_, by omega, by omega, h3, fun j u hu => ?_⟩
      · unfold sliced
        rw [if_neg hne, hl, Nat.mul_one]
        simp [Addr.add_mid]
      · rw [Nat.add_assoc]
        refine h4 (n + j) u ?_
        rw [List.getElem?_map, List.getElem?_drop] at hu
        rw [List.getElem?_map]
        exact hu
theorem front_block {a : Option Addr} {len cap n k : Nat} (hn : n ≤ len) (h : (Value.slice a n n).elemBlock = some k) : (Value.slice a len cap).elemBlock = some k := by
  cases a with
  | none => simp [Value.elemBlock] at h
  | some x =>
    cases n with
    | zero => simp [Value.elemBlock] at h
    | succ n =>
      obtain ⟨len, rfl⟩ : ∃ m, len = m + 1 := ⟨len - 1, by omega⟩
      simpa [Value.elemBlock] using h
theorem add_block (x : Addr) (k : Nat) : (x.add k).block = x.block := by unfold Addr.add; split <;> rfl
theorem back_block {a : Option Addr} {len cap n k : Nat} (h : (sliced a n len cap 1).elemBlock = some k) : (Value.slice a len cap).elemBlock = some k := by
  unfold sliced at h
  cases a with
  | none => simp [Value.elemBlock] at h
  | some x =>
    by_cases hl : n < len
    · obtain ⟨d, hd⟩ : ∃ d, len - n = d + 1 := ⟨len - n - 1, by omega⟩
      obtain ⟨len, rfl⟩ : ∃ m, len = m + 1 := ⟨len - 1, by omega⟩
      rw [hd] at h
      simp only [Value.elemBlock] at h ⊢
      split at h
      · rename_i e
        injection e with e1 e2
        split at e1
        · injection e1 with e1
          subst e1
          exact h
        · injection e1 with e1
          subst e1
          simpa [add_block] using h
      · cases h
    · rw [show len - n = 0 from by omega] at h
      split at h <;> simp [Value.elemBlock] at h

/-- A reader: what is left, and whether it has come short. -/
def RdAt (w : World) (rb : Nat) (rv : Value) (sh : Bool) : Prop := w.heap[rb]? = some (.cells #[rv, .bool sh] 53 (0, 0))
theorem RdAt.facts {w : World} {rb : Nat} {rv : Value} {sh : Bool} (h : RdAt w rb rv sh) : w.cell? ⟨rb, 0, none⟩ = some rv ∧ w.cell? ⟨rb, 1, none⟩ = some (.bool sh) ∧ w.frozen? ⟨rb, 0, none⟩ = false ∧ w.frozen? ⟨rb, 1, none⟩ = false :=
  ⟨by rw [cell_of_row w rb _ _ _ _ h]; rfl, by rw [cell_of_row w rb _ _ _ _ h]; rfl, frozen_of_row _ _ _ _ _ h, frozen_of_row _ _ _ _ _ h⟩
theorem RdAt.set0 {w : World} {rb : Nat} {rv : Value} {sh : Bool} (h : RdAt w rb rv sh) (v : Value) : RdAt (w.setCell ⟨rb, 0, none⟩ v) rb v sh := heap_setCell_same w rb 0 _ _ v h
theorem RdAt.set1 {w : World} {rb : Nat} {rv : Value} {sh : Bool} (h : RdAt w rb rv sh) (b : Bool) : RdAt (w.setCell ⟨rb, 1, none⟩ (.bool b)) rb rv b := heap_setCell_same w rb 1 _ _ (.bool b) h

set_option maxRecDepth 100000 in
theorem take_short {w : World} {rb : Nat} {a : Option Addr} {len c : Nat} {sh : Bool} (hr : RdAt w rb (.slice a len c) sh) (n : Nat) (hn : len < n) (h63 : n ≤ 9223372036854775807) :
    Calls Try.prog 23 #[.pointer (some ⟨rb, 0, none⟩), .int .i64 n] w fun e w' => e = .returned (.slice none 0 0) ∧ RdAt w' rb (.slice none 0 0) true ∧ Keeps [rb] w w' := by
  obtain ⟨e0, e1, f0, f1⟩ := hr.facts
  have g1 : (len : Int) < (n : Int) := by omega
  have hlt := lt_of_heap hr
  have HR := Lib.hid hr
  clear hr
  go_enter Try.func23, Try.ntmps23
  go_wp2_with fail
  go_ret
  exact ⟨rfl, (HR.out.set1 true).set0 _, ((Keeps.refl _ _).setCell (.inl (by simp)) _).setCell (.inl (by simp)) _⟩

set_option maxRecDepth 100000 in
theorem take_ok {w : World} {rb : Nat} {a : Option Addr} {c : Nat} {l : List UInt8} {sh : Bool} (hr : RdAt w rb (.slice a l.length c) sh) (hl : BytesAt w (.slice a l.length c) l) (n : Nat) (hn : n ≤ l.length) :
    Calls Try.prog 23 #[.pointer (some ⟨rb, 0, none⟩), .int .i64 n] w fun e w' => e = .returned (.slice a n n) ∧ RdAt w' rb (sliced a n l.length c 1) sh ∧ Keeps [rb] w w' := by
  obtain ⟨e0, e1, f0, f1⟩ := hr.facts
  obtain ⟨a', c', hv, hc1, hc2⟩ := hl.form
  injection hv with q1 _ q3
  subst q1 q3
  unfold maxLen at hc2
  have g1 : ¬ ((l.length : Int) < (n : Int)) := by omega
  have hlt := lt_of_heap hr
  have HR := Lib.hid hr
  clear hr
  go_enter Try.func23, Try.ntmps23
  go_wp2_with fail
  all_goals
    go_ret
    exact ⟨rfl, HR.out.set0 _, (Keeps.refl _ _).setCell (.inl (by simp)) _⟩
end Go.Proofs.Ytnobhfpjchofpaa
