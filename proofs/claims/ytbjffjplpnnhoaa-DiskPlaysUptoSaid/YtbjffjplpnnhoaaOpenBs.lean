/-
  An argument that is a slice of bytes.
-/
import Derived.Test.YtbjffjplpnnhoaaOpen
namespace Go.Proofs.Ytbjffjplpnnhoaa
set_option linter.unusedVariables false
set_option linter.unusedSimpArgs false
open Go.ChangeShapes Go.WideShapes Go.ChangeAt Go.RowKit Go.Deep

theorem cells_u8' : Try.prog.cellsOf 5 = 1 := by kernel_rfl
/-- A cell that reads has no spot. -/
theorem spot_none_of {w : World} {a : Addr} {v : Value} (h : w.cell? a = some v) : a.spot = none := by
  cases hsp : a.spot with
  | none => rfl
  | some s =>
    unfold World.cell? at h
    split at h
    · simp [hsp] at h
    · cases h
set_option maxRecDepth 10000 in
theorem open_bs {H : Type} {enc : TypeId × Value → H} {w : World} {base : Nat} {spare : Nat → Bool} {held : Bool} {v : Value} {d : DataW H} {ps : List MemPlace} {r : Reach} {b0 : Nat}
    (hv : Value.okWide Try.prog w r b0 29 v) (h : DataW.Trod enc Try.prog w base spare held 29 v d ps) : ∃ l, BytesAt w v l ∧ (∀ k, v.elemBlock = some k → k < w.heap.size) ∧ l.length ≤ Rows.uptoBulk d := by
  obtain ⟨a, len, cap, rfl⟩ := okWide_slice Try.underlying29 hv
  obtain ⟨fuel, hf⟩ := h
  rcases open_slice1 Try.underlying29 cells_u8' hf with ⟨hc, hx⟩ | ⟨a', len', cap', m, n, V, Df, Pl, hc, _, hl, hm, hmm, hx, hi⟩
  · simp only [Value.cells, List.cons.injEq, and_true] at hc
    injection hc with h1 h2 h3
    subst h1 h2 h3
    exact ⟨[], .inl ⟨rfl, none, 0, rfl, by simp [maxLen]⟩, by simp [Value.elemBlock], Nat.zero_le _⟩
  · simp only [Value.cells, List.cons.injEq, and_true] at hc
    injection hc with h1 h2 h3
    subst h1 h2 h3
    have hlm : len ≤ m := by rw [hmm]; split <;> omega
    have hex : ∀ i, i < len → ∃ c : UInt8, V i = B c := by
      intro i hil
      obtain ⟨_, ht⟩ := hi i (by omega)
      obtain ⟨q, e, _, wq⟩ := DataW.trod_int Try.underlying5 ht
      simp only [List.cons.injEq, and_true] at e
      have hb := bounds_u8 wq
      refine ⟨q.toNat.toUInt8, ?_⟩
      rw [e]
      unfold B
      congr 1
      simp
      omega
    obtain ⟨f, hf'⟩ := choose_lt hex
    simp only [Prod.mk.injEq] at hx
    refine ⟨(List.range len).map f, ?_, ?_, ?_⟩
    · by_cases h0 : len = 0
      · subst h0
        exact .inl ⟨rfl, some a', cap, rfl, hm⟩
      · have hok0 := (hi 0 (by omega)).1
        have e0 : a'.add 0 = a' := by unfold Addr.add; simp
        rw [e0] at hok0
        have hs := spot_none_of hok0
        obtain ⟨g, o, sp⟩ := a'
        simp only at hs
        subst hs
        have hg := World.block_lt_of_cell? w _ hok0
        refine .inr ⟨g, o, cap, by simp, by simpa using hl, hm, hg, fun j u hj => ?_⟩
        have hj' : j < len := by
          have := (List.getElem?_eq_some_iff.1 hj).1
          simpa using this
        simp only [List.getElem?_map, List.getElem?_range hj', Option.map_some, Option.some.injEq] at hj
        have := (hi j (by omega)).1
        rw [hf' j hj', Addr.add_mid, hj] at this
        exact this
    · intro k hk
      unfold Value.elemBlock at hk
      split at hk
      · rename_i a1 n1 c1 heq
        injection heq with h1 h2 _
        injection h1 with h1
        subst h1 h2
        have hok0 := (hi 0 (by omega)).1
        have e0 : a'.add 0 = a' := by unfold Addr.add; simp
        rw [e0] at hok0
        have hg := World.block_lt_of_cell? w _ hok0
        injection hk with hk
        omega
      · cases hk
    · rw [hx.1]
      have := bulk_slice ((List.range len).map Df) ((List.range (m - len)).map fun j => Df (len + j))
      simpa using this
end Go.Proofs.Ytbjffjplpnnhoaa
