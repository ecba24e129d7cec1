/-
  An argument that is a slice of layer 12's texts (ledgerlaw12.ProofText).
-/
import Derived.Test.YtnobhfpjchofpaaOpenPf
namespace Go.Proofs.Ytnobhfpjchofpaa
set_option linter.unusedVariables false
set_option linter.unusedSimpArgs false
open Go.ChangeShapes Go.WideShapes Go.ChangeAt Go.RowKit Go.Deep Go.Lib Go.Joins

structure Pt where
  dec : Bool
  pf : Pf
  raw : List UInt8
instance : Inhabited Pt := ⟨⟨false, ⟨false, [], [], []⟩, []⟩⟩
/-- These cells are such a text. -/
def PtIn (w : World) (cs : List Value) (x : Pt) : Prop := ∃ vv sv rv, cs = .bool x.dec :: (pfCells x.pf vv sv ++ [rv]) ∧ BytesAt w vv x.pf.val ∧ SumsAt w sv x.pf.sums ∧ x.pf.ok ∧ BytesAt w rv x.raw
def PtsAt (w : World) (v : Value) (l : List Pt) : Prop :=
  (l = [] ∧ ∃ a c, v = .slice a 0 c ∧ c ≤ maxLen) ∨ ∃ g o cap, v = .slice (some ⟨g, o, none⟩) l.length cap ∧ l.length ≤ cap ∧ cap ≤ maxLen ∧ g < w.heap.size ∧ ∀ k (hk : k < l.length), ∃ cs, PtIn w cs l[k] ∧ w.rangeAt g (o + k * 37) cs
theorem PtIn.len {w : World} {cs : List Value} {x : Pt} (h : PtIn w cs x) : cs.length = 37 := by
  obtain ⟨vv, sv, rv, rfl, _, _, ho, _⟩ := h
  simp [pf_length ho.1]
theorem PtsAt.form {w : World} {v : Value} {l : List Pt} (h : PtsAt w v l) : ∃ a c, v = .slice a l.length c ∧ l.length ≤ c ∧ c ≤ maxLen := by
  rcases h with ⟨rfl, a, c, rfl, hc⟩ | ⟨g, o, cap, rfl, h1, h2, _⟩
  · exact ⟨a, c, rfl, Nat.zero_le _, hc⟩
  · exact ⟨_, _, rfl, h1, h2⟩
theorem cells_ptext : Try.prog.cellsOf 44 = 37 := by kernel_rfl
theorem bulk_mem {H : Type} {d : DataW H} {l : List (DataW H)} (h : d ∈ l) : Rows.uptoBulk d ≤ Rows.uptoBulkAll l := by
  induction l with
  | nil => cases h
  | cons x l ih =>
    simp only [Rows.uptoBulkAll]
    rcases List.mem_cons.1 h with rfl | h
    · omega
    · have := ih h; omega

section
variable {H : Type} {enc : TypeId × Value → H} {w : World} {base : Nat} {spare : Nat → Bool} {held : Bool} {fuel : Nat} {cs : List Value} {d : DataW H} {ps : List MemPlace}
set_option maxRecDepth 10000 in
theorem open_pt (hf : DataW.trod enc Try.prog w base spare held fuel 44 cs = some (d, ps)) : ∃ x, PtIn w cs x ∧ x.pf.val.length + x.pf.sums.length + x.raw.length ≤ Rows.uptoBulk d := by
  obtain ⟨xs, n, _, hx, hl, hxl, hq⟩ := DataW.trod_struct Try.underlying44 hf
  rw [cells_ptext] at hl
  obtain ⟨y0, y1, y2, rfl⟩ : ∃ y0 y1 y2, xs = [y0, y1, y2] := by
    match xs, hxl with
    | [y0, y1, y2], _ => exact ⟨_, _, _, rfl⟩
  have h0 := hq 0 _ rfl
  have h1 := hq 1 _ rfl
  have h2 := hq 2 _ rfl
  simp only [List.getElem_toArray, List.getElem_cons_zero, List.getElem_cons_succ, cells_bool, cells_bytes, cells_proof, List.drop_zero, List.getElem?_cons_zero, List.getElem?_cons_succ] at h0 h1 h2
  simp only [Prod.mk.injEq] at hx
  obtain ⟨b, e0, _⟩ := DataW.trod_bool Try.underlying4 h0
  obtain ⟨p, vv, sv, e1, hv, hs, ho, b1⟩ := open_pf_cells (d := y1.1) (ps := y1.2) h1
  obtain ⟨rv, raw, e2, hr, b2⟩ := open_bs_cell (d := y2.1) (ps := y2.2) h2
  have ec : cs = cs.take 1 ++ ((cs.drop 1).take 35 ++ (cs.drop 36).take 1) := by
    have t1 : (cs.drop 36).take 1 = cs.drop 36 := List.take_of_length_le (by rw [List.length_drop]; omega)
    have t2 : (cs.drop 1).take 35 ++ cs.drop 36 = cs.drop 1 := by
      have := List.take_append_drop 35 (cs.drop 1)
      rwa [List.drop_drop] at this
    rw [t1, t2, List.take_append_drop]
  rw [e0, e1, e2] at ec
  refine ⟨⟨b, p, raw⟩, ⟨vv, sv, rv, by rw [ec]; rfl, hv, hs, ho, hr⟩, ?_⟩
  rw [hx.1]
  simp only [List.map_cons, List.map_nil, Rows.uptoBulk, Rows.uptoBulkAll]
  omega
end

set_option maxRecDepth 10000 in
theorem open_pts {H : Type} {enc : TypeId × Value → H} {w : World} {base : Nat} {spare : Nat → Bool} {held : Bool} {v : Value} {d : DataW H} {ps : List MemPlace} {r : Reach} {b0 : Nat}
    (hv : Value.okWide Try.prog w r b0 23 v) (h : DataW.Trod enc Try.prog w base spare held 23 v d ps) : ∃ l, PtsAt w v l ∧ ∀ x ∈ l, x.pf.val.length + x.pf.sums.length + x.raw.length ≤ Rows.uptoBulk d := by
  obtain ⟨a, len, cap, rfl⟩ := okWide_slice Try.underlying23 hv
  obtain ⟨fuel, hf⟩ := h
  rcases open_slice Try.underlying23 hf with ⟨hc, hx⟩ | ⟨a', len', cap', m, n, Df, Pl, hc, _, hl, hm, hmm, hx, hi⟩
  · simp only [Value.cells, List.cons.injEq, and_true] at hc
    injection hc with h1 h2 h3
    subst h1 h2 h3
    exact ⟨[], .inl ⟨rfl, none, 0, rfl, by simp [maxLen]⟩, by simp⟩
  · simp only [Value.cells, List.cons.injEq, and_true] at hc
    injection hc with h1 h2 h3
    subst h1 h2 h3
    rw [cells_ptext] at hi
    have hlm : len ≤ m := by rw [hmm]; split <;> omega
    simp only [Prod.mk.injEq] at hx
    have hall : Rows.uptoBulkAll ((List.range len).map Df) ≤ Rows.uptoBulk d := by
      rw [hx.1]
      simp only [Rows.uptoBulk]
      omega
    have hex : ∀ i, i < len → ∃ x : Pt, (∃ cs, PtIn w cs x ∧ ∀ j u, cs[j]? = some u → w.cell? (a'.add (i * 37 + j)) = some u) ∧ x.pf.val.length + x.pf.sums.length + x.raw.length ≤ Rows.uptoBulk d := by
      intro i hil
      obtain ⟨cs', hcs, ht⟩ := hi i (by omega)
      obtain ⟨x, hxp, hxb⟩ := open_pt ht
      obtain ⟨_, hcl, hat⟩ := World.cells?_some hcs
      refine ⟨x, ⟨cs', hxp, fun j u hj => ?_⟩, ?_⟩
      · have hjl := (List.getElem?_eq_some_iff.1 hj).1
        rw [← Go.Deep.add_add, hat j (by have := hxp.len; omega)]
        exact hj
      · have := bulk_mem (show Df i ∈ (List.range len).map Df from List.mem_map.2 ⟨i, List.mem_range.2 hil, rfl⟩)
        omega
    obtain ⟨f, hf'⟩ := choose_lt hex
    refine ⟨(List.range len).map f, ?_, ?_⟩
    · by_cases h0 : len = 0
      · subst h0
        exact .inl ⟨rfl, some a', cap, rfl, hm⟩
      · obtain ⟨⟨cs0, hp0, hc0⟩, _⟩ := hf' 0 (by omega)
        have hok0 := hc0 0 (cs0[0]'(by rw [hp0.len]; omega)) (List.getElem?_eq_getElem _)
        have hs : a'.spot = none := by
          cases hsp : a'.spot with
          | none => rfl
          | some s =>
            simp only [Nat.zero_mul, Nat.add_zero] at hok0
            have e : a'.add 0 = a' := by unfold Addr.add; simp
            rw [e] at hok0
            unfold World.cell? at hok0
            split at hok0
            · simp [hsp] at hok0
            · cases hok0
        obtain ⟨g, o, sp⟩ := a'
        simp only at hs
        subst hs
        have hg := World.block_lt_of_cell? w _ hok0
        simp only [Nat.zero_mul, Nat.add_zero, Addr.add_mid] at hg
        refine .inr ⟨g, o, cap, by simp, by simpa using hl, hm, hg, fun k hk => ?_⟩
        have hk' : k < len := by simpa using hk
        obtain ⟨⟨cs, hp, hcc⟩, _⟩ := hf' k hk'
        refine ⟨cs, by simpa using hp, fun j u hj => ?_⟩
        have := hcc j u hj
        rw [Addr.add_mid] at this
        rw [Nat.add_assoc]
        exact this
    · intro x hx'
      obtain ⟨i, hi', rfl⟩ := List.mem_map.1 hx'
      exact (hf' i (List.mem_range.1 hi')).2
end Go.Proofs.Ytnobhfpjchofpaa
