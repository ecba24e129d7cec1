/-
  An argument that is a slice of truth values.
-/
import Derived.Test.YtbjffjplpnnhoaaOpenBs
namespace Go.Proofs.Ytbjffjplpnnhoaa
set_option linter.unusedVariables false
set_option linter.unusedSimpArgs false
open Go.ChangeShapes Go.WideShapes Go.ChangeAt Go.RowKit Go.Deep

/-- v is a slice of truth values that reads as l. -/
def BoolsAt (w : World) (v : Value) (l : List Bool) : Prop :=
  (l = [] ∧ ∃ a c, v = .slice a 0 c ∧ c ≤ maxLen) ∨ ∃ g o cap, v = .slice (some ⟨g, o, none⟩) l.length cap ∧ l.length ≤ cap ∧ cap ≤ maxLen ∧ g < w.heap.size ∧ w.rangeAt g o (l.map Value.bool)
theorem BoolsAt.form {w : World} {v : Value} {l : List Bool} (h : BoolsAt w v l) : ∃ a c, v = .slice a l.length c ∧ l.length ≤ c ∧ c ≤ maxLen := by
  rcases h with ⟨rfl, a, c, rfl, hc⟩ | ⟨g, o, cap, rfl, h1, h2, _⟩
  · exact ⟨a, c, rfl, Nat.zero_le _, hc⟩
  · exact ⟨_, _, rfl, h1, h2⟩
theorem BoolsAt.at {w : World} {a : Option Addr} {n c : Nat} {l : List Bool} (h : BoolsAt w (.slice a n c) l) {k : Nat} (hk : k < l.length) : ∃ g o, a = some ⟨g, o, none⟩ ∧ g < w.heap.size ∧ w.cell? ⟨g, o + k, none⟩ = some (.bool l[k]) := by
  rcases h with ⟨h0, _⟩ | ⟨g, o, cap, hv, _, _, h3, h4⟩
  · subst h0; simp at hk
  · injection hv with e _ _
    refine ⟨g, o, e, h3, ?_⟩
    have h5 := h4 k (.bool l[k]) (by rw [List.getElem?_map, List.getElem?_eq_getElem hk]; rfl)
    exact h5
theorem cells_bool' : Try.prog.cellsOf 4 = 1 := by kernel_rfl
set_option maxRecDepth 10000 in
theorem open_bools {H : Type} {enc : TypeId × Value → H} {w : World} {base : Nat} {spare : Nat → Bool} {held : Bool} {v : Value} {d : DataW H} {ps : List MemPlace} {r : Reach} {b0 : Nat}
    (hv : Value.okWide Try.prog w r b0 41 v) (h : DataW.Trod enc Try.prog w base spare held 41 v d ps) : ∃ l, BoolsAt w v l ∧ l.length ≤ Rows.uptoBulk d := by
  obtain ⟨a, len, cap, rfl⟩ := okWide_slice Try.underlying41 hv
  obtain ⟨fuel, hf⟩ := h
  rcases open_slice1 Try.underlying41 cells_bool' hf with ⟨hc, hx⟩ | ⟨a', len', cap', m, n, V, Df, Pl, hc, _, hl, hm, hmm, hx, hi⟩
  · simp only [Value.cells, List.cons.injEq, and_true] at hc
    injection hc with h1 h2 h3
    subst h1 h2 h3
    exact ⟨[], .inl ⟨rfl, none, 0, rfl, by simp [maxLen]⟩, Nat.zero_le _⟩
  · simp only [Value.cells, List.cons.injEq, and_true] at hc
    injection hc with h1 h2 h3
    subst h1 h2 h3
    have hlm : len ≤ m := by rw [hmm]; split <;> omega
    have hex : ∀ i, i < len → ∃ c : Bool, V i = .bool c := by
      intro i hil
      obtain ⟨_, ht⟩ := hi i (by omega)
      obtain ⟨q, e, _⟩ := DataW.trod_bool Try.underlying4 ht
      simp only [List.cons.injEq, and_true] at e
      exact ⟨q, e⟩
    obtain ⟨f, hf'⟩ := choose_lt hex
    simp only [Prod.mk.injEq] at hx
    refine ⟨(List.range len).map f, ?_, ?_⟩
    · by_cases h0 : len = 0
      · subst h0
        exact .inl ⟨rfl, some a', cap, rfl, hm⟩
      · have hok0 := (hi 0 (by omega)).1
        have e0 : a'.add 0 = a' := by unfold Addr.add; simp
        rw [e0] at hok0
        have hs := spot_none_of hok0
        obtain ⟨g, o, sp⟩ := a'
        simp only at hs
        subst hs
        have hg := World.block_lt_of_cell? w _ hok0
        refine .inr ⟨g, o, cap, by simp, by simpa using hl, hm, hg, fun j u hj => ?_⟩
        have hj' : j < len := by
          have := (List.getElem?_eq_some_iff.1 hj).1
          simpa using this
        simp only [List.getElem?_map, List.getElem?_range hj', Option.map_some, Option.some.injEq] at hj
        have := (hi j (by omega)).1
        rw [hf' j hj', Addr.add_mid, hj] at this
        exact this
    · rw [hx.1]
      have := bulk_slice ((List.range len).map Df) ((List.range (m - len)).map fun j => Df (len + j))
      simpa using this
end Go.Proofs.Ytbjffjplpnnhoaa
