/-
  An argument that is a slice of steps (ledgerlaw4.Op).
-/
import Derived.Test.YtbjffjplpnnhoaaOpenNest
import Derived.Test.YtbjffjplpnnhoaaBkL
namespace Go.Proofs.Ytbjffjplpnnhoaa
set_option linter.unusedVariables false
set_option linter.unusedSimpArgs false
open Go.ChangeShapes Go.WideShapes Go.ChangeAt Go.RowKit Go.Deep

/-- v is a slice that reads as these steps. -/
def OpsAt (w : World) (v : Value) (l : List OpV) : Prop :=
  (l = [] ∧ ∃ a c, v = .slice a 0 c ∧ c ≤ maxLen) ∨ ∃ g o cap, v = .slice (some ⟨g, o, none⟩) l.length cap ∧ l.length ≤ cap ∧ cap ≤ maxLen ∧ g < w.heap.size ∧ ∀ k (hk : k < l.length), w.rangeAt g (o + k * 6) l[k].cells.toList
theorem OpsAt.form {w : World} {v : Value} {l : List OpV} (h : OpsAt w v l) : ∃ a c, v = .slice a l.length c ∧ l.length ≤ c ∧ c ≤ maxLen := by
  rcases h with ⟨rfl, a, c, rfl, hc⟩ | ⟨g, o, cap, rfl, h1, h2, _⟩
  · exact ⟨a, c, rfl, Nat.zero_le _, hc⟩
  · exact ⟨_, _, rfl, h1, h2⟩
theorem OpsAt.at {w : World} {a : Option Addr} {n c : Nat} {l : List OpV} (h : OpsAt w (.slice a n c) l) {k : Nat} (hk : k < l.length) : ∃ g o, a = some ⟨g, o, none⟩ ∧ g < w.heap.size ∧ w.rangeAt g (o + k * 6) l[k].cells.toList := by
  rcases h with ⟨h0, _⟩ | ⟨g, o, cap, hv, _, _, h3, h4⟩
  · subst h0; simp at hk
  · injection hv with e _ _
    exact ⟨g, o, e, h3, h4 k hk⟩
theorem cells_op : Try.prog.cellsOf 80 = 6 := by kernel_rfl
theorem cells_u32 : Try.prog.cellsOf 43 = 1 := by kernel_rfl
instance : Inhabited OpV := ⟨⟨0, 0, 0, 0, .slice none 0 0, [], 0⟩⟩
section
variable {H : Type} {enc : TypeId × Value → H} {w : World} {base : Nat} {spare : Nat → Bool} {held : Bool} {fuel : Nat} {cs : List Value} {d : DataW H} {ps : List MemPlace}
theorem trod_struct6 {t : TypeId} {f0 f1 f2 f3 f4 f5 : Field} {x : DataW H × List MemPlace} (ht : Try.prog.underlying t = some (.struct #[f0, f1, f2, f3, f4, f5])) (h : DataW.trod enc Try.prog w base spare held fuel t cs = some x) :
    ∃ y0 y1 y2 y3 y4 y5 n, x.1 = .agg [y0.1, y1.1, y2.1, y3.1, y4.1, y5.1] ∧ cs.length = Try.prog.cellsOf t ∧ DataW.trod enc Try.prog w base spare held n f0.type ((cs.drop f0.offset).take (Try.prog.cellsOf f0.type)) = some y0 ∧
      DataW.trod enc Try.prog w base spare held n f1.type ((cs.drop f1.offset).take (Try.prog.cellsOf f1.type)) = some y1 ∧ DataW.trod enc Try.prog w base spare held n f2.type ((cs.drop f2.offset).take (Try.prog.cellsOf f2.type)) = some y2 ∧
      DataW.trod enc Try.prog w base spare held n f3.type ((cs.drop f3.offset).take (Try.prog.cellsOf f3.type)) = some y3 ∧ DataW.trod enc Try.prog w base spare held n f4.type ((cs.drop f4.offset).take (Try.prog.cellsOf f4.type)) = some y4 ∧
      DataW.trod enc Try.prog w base spare held n f5.type ((cs.drop f5.offset).take (Try.prog.cellsOf f5.type)) = some y5 := by
  obtain ⟨xs, n, _, rfl, hl, hlen, hf⟩ := DataW.trod_struct ht h
  match xs, hlen with
  | [y0, y1, y2, y3, y4, y5], _ => exact ⟨y0, y1, y2, y3, y4, y5, n, by simp, hl, by simpa using hf 0 f0 rfl, by simpa using hf 1 f1 rfl, by simpa using hf 2 f2 rfl, by simpa using hf 3 f3 rfl, by simpa using hf 4 f4 rfl, by simpa using hf 5 f5 rfl⟩
set_option maxRecDepth 10000 in
theorem open_op (hf : DataW.trod enc Try.prog w base spare held fuel 80 cs = some (d, ps)) (hk : Rows.uptoBulk d ≤ 1048576) : ∃ o : OpV, o.ok w ∧ cs = o.cells.toList := by
  obtain ⟨y0, y1, y2, y3, y4, y5, n, hx, hl, h0, h1, h2, h3, h4, h5⟩ := trod_struct6 Try.underlying80 hf
  rw [cells_op] at hl
  simp only [cells_int, cells_bytes', cells_u32, List.drop_zero] at h0 h1 h2 h3 h4 h5
  obtain ⟨a0, a1, a2, a3, a4, a5, rfl⟩ : ∃ a0 a1 a2 a3 a4 a5, cs = [a0, a1, a2, a3, a4, a5] := by
    match cs, hl with
    | [a0, a1, a2, a3, a4, a5], _ => exact ⟨_, _, _, _, _, _, rfl⟩
  simp only [List.drop_succ_cons, List.drop_zero, List.take_succ_cons, List.take_zero] at h0 h1 h2 h3 h4 h5
  obtain ⟨p0, e0, _, wp0⟩ := DataW.trod_int Try.underlying3 h0
  obtain ⟨p1, e1, _, wp1⟩ := DataW.trod_int Try.underlying3 h1
  obtain ⟨p2, e2, _, wp2⟩ := DataW.trod_int Try.underlying3 h2
  obtain ⟨p3, e3, _, wp3⟩ := DataW.trod_int Try.underlying3 h3
  obtain ⟨v4, l4, e4, hB, hblk, hb4⟩ := open_bs_cell' (d := y4.1) (ps := y4.2) h4
  obtain ⟨p5, e5, _, wp5⟩ := DataW.trod_int Try.underlying43 h5
  simp only [List.cons.injEq, and_true] at e0 e1 e2 e3 e4 e5
  have b0 := bounds_i64 wp0
  have b1 := bounds_i64 wp1
  have b2 := bounds_i64 wp2
  have b3 := bounds_i64 wp3
  have b5 := bounds_u32 wp5
  have hbulk : Rows.uptoBulk y4.1 ≤ Rows.uptoBulk d := by
    simp only at hx
    rw [hx]
    simp only [Rows.uptoBulk, Rows.uptoBulkAll]
    omega
  obtain ⟨pt, rfl⟩ : ∃ pt : Nat, p5 = pt := ⟨p5.toNat, by omega⟩
  subst e0 e1 e2 e3 e5
  rw [e4]
  exact ⟨⟨p0, p1, p2, p3, v4, l4, pt⟩, ⟨hB, hblk, by simp only; omega, b0, b1, b2, b3, by simp only; omega⟩, rfl⟩
end
set_option maxRecDepth 10000 in
theorem open_ops {H : Type} {enc : TypeId × Value → H} {w : World} {base : Nat} {spare : Nat → Bool} {held : Bool} {v : Value} {d : DataW H} {ps : List MemPlace} {r : Reach} {b0 : Nat}
    (hv : Value.okWide Try.prog w r b0 69 v) (h : DataW.Trod enc Try.prog w base spare held 69 v d ps) (hk : Rows.uptoBulk d ≤ 1048576) : ∃ l, OpsAt w v l ∧ (∀ o ∈ l, o.ok w) ∧ l.length ≤ Rows.uptoBulk d := by
  obtain ⟨a, len, cap, rfl⟩ := okWide_slice Try.underlying69 hv
  obtain ⟨fuel, hf⟩ := h
  rcases open_slice Try.underlying69 hf with ⟨hc, hx⟩ | ⟨a', len', cap', m, n, Df, Pl, hc, _, hl, hm, hmm, hx, hi⟩
  · simp only [Value.cells, List.cons.injEq, and_true] at hc
    injection hc with h1 h2 h3
    subst h1 h2 h3
    exact ⟨[], .inl ⟨rfl, none, 0, rfl, by simp [maxLen]⟩, by simp, Nat.zero_le _⟩
  · simp only [Value.cells, List.cons.injEq, and_true] at hc
    injection hc with h1 h2 h3
    subst h1 h2 h3
    rw [cells_op] at hi
    have hlm : len ≤ m := by rw [hmm]; split <;> omega
    simp only [Prod.mk.injEq] at hx
    have hex : ∀ i, i < len → ∃ o : OpV, o.ok w ∧ ∀ j u, o.cells.toList[j]? = some u → w.cell? (a'.add (i * 6 + j)) = some u := by
      intro i hil
      obtain ⟨cs', hcs, ht⟩ := hi i (by omega)
      have h6 : Rows.uptoBulk (Df i) ≤ Rows.uptoBulk d := by
        rw [hx.1]
        exact bulk_elem (List.mem_map.2 ⟨i, List.mem_range.2 hil, rfl⟩)
      obtain ⟨o, ho, rfl⟩ := open_op (d := Df i) (ps := Pl i) ht (by omega)
      obtain ⟨_, hcl, hat⟩ := World.cells?_some hcs
      refine ⟨o, ho, fun j u hj => ?_⟩
      have hjl := (List.getElem?_eq_some_iff.1 hj).1
      rw [← Go.Deep.add_add, hat j (by omega)]
      exact hj
    obtain ⟨f, hf'⟩ := choose_lt hex
    refine ⟨(List.range len).map f, ?_, ?_, ?_⟩
    · by_cases h0 : len = 0
      · subst h0
        exact .inl ⟨rfl, some a', cap, rfl, hm⟩
      · have hok0 := (hf' 0 (by omega)).2 0 (.int .i64 (f 0).kind) rfl
        have e0 : a'.add (0 * 6 + 0) = a' := by unfold Addr.add; simp
        rw [e0] at hok0
        have hs := spot_none_of hok0
        obtain ⟨g, o, sp⟩ := a'
        simp only at hs
        subst hs
        have hg := World.block_lt_of_cell? w _ hok0
        refine .inr ⟨g, o, cap, by simp, by simpa using hl, hm, hg, fun k hk => ?_⟩
        have hk' : k < len := by simpa using hk
        intro j u hj
        have h5 := (hf' k hk').2 j u (by simpa using hj)
        rw [Addr.add_mid] at h5
        rw [Nat.add_assoc]
        exact h5
    · intro x hx'
      obtain ⟨i, hi', rfl⟩ := List.mem_map.1 hx'
      exact (hf' i (List.mem_range.1 hi')).1
    · rw [hx.1]
      have := bulk_slice ((List.range len).map Df) ((List.range (m - len)).map fun j => Df (len + j))
      simpa using this
end Go.Proofs.Ytbjffjplpnnhoaa
