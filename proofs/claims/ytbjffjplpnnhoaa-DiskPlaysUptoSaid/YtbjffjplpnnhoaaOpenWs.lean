/-
  An argument that is a slice of writes (ledgerlaw4.Wrote).
-/
import Derived.Test.YtbjffjplpnnhoaaOpen
import Derived.Test.YtbjffjplpnnhoaaDlB
namespace Go.Proofs.Ytbjffjplpnnhoaa
set_option linter.unusedVariables false
set_option linter.unusedSimpArgs false
open Go.ChangeShapes Go.WideShapes Go.ChangeAt Go.RowKit Go.Deep

theorem cells_wrote : Try.prog.cellsOf 39 = 5 := by kernel_rfl
theorem cells_u8 : Try.prog.cellsOf 5 = 1 := by kernel_rfl
theorem cells_4u8 : Try.prog.cellsOf 37 = 4 := by kernel_rfl
theorem cells_int : Try.prog.cellsOf 3 = 1 := by kernel_rfl
instance : Inhabited Wr := ⟨⟨0, []⟩⟩

theorem byte_of {n : Int} (h : (Lit.int .u8 n).wf = true) : ∃ c : UInt8, (Value.int .u8 n) = B c := by
  have hb := bounds_u8 h
  refine ⟨n.toNat.toUInt8, ?_⟩
  unfold B
  congr 1
  simp
  omega

set_option maxRecDepth 10000 in
theorem open_wr {H : Type} {enc : TypeId × Value → H} {w : World} {base : Nat} {spare : Nat → Bool} {held : Bool} {fuel : Nat} {cs : List Value} {x : DataW H × List MemPlace}
    (h : DataW.trod enc Try.prog w base spare held fuel 39 cs = some x) : ∃ o : Wr, o.ok ∧ cs = o.cells := by
  obtain ⟨xs, n, _, _, hl, _, hf⟩ := DataW.trod_struct Try.underlying39 h
  rw [cells_wrote] at hl
  have f0 := hf 0 _ rfl
  have f1 := hf 1 _ rfl
  simp only [List.getElem_toArray, List.getElem_cons_zero, List.getElem_cons_succ, cells_int, cells_4u8] at f0 f1
  obtain ⟨a0, a1, a2, a3, a4, rfl⟩ : ∃ a0 a1 a2 a3 a4, cs = [a0, a1, a2, a3, a4] := by
    match cs, hl with
    | [a0, a1, a2, a3, a4], _ => exact ⟨_, _, _, _, _, rfl⟩
  obtain ⟨y0, hy0⟩ : ∃ y, DataW.trod enc Try.prog w base spare held n 3 [a0] = some y := by
    cases hx : xs[0]? with
    | none => simp_all
    | some y => exact ⟨y, by simpa [hx] using f0⟩
  obtain ⟨p, e, _, wp⟩ := DataW.trod_int Try.underlying3 hy0
  obtain ⟨y1, hy1⟩ : ∃ y, DataW.trod enc Try.prog w base spare held n 37 [a1, a2, a3, a4] = some y := by
    cases hx : xs[1]? with
    | none => simp_all
    | some y => exact ⟨y, by simpa [hx] using f1⟩
  obtain ⟨ys, m, _, _, _, hyl, hg⟩ := DataW.trod_array Try.underlying37 hy1
  simp only [cells_u8] at hg
  have hb : ∀ i (hi : i < 4) (a : Value), (([a1, a2, a3, a4] : List Value).drop (i * 1)).take 1 = [a] → ∃ c : UInt8, a = B c := by
    intro i hi a ha
    have := hg i hi
    rw [ha, List.getElem?_eq_getElem (by omega)] at this
    obtain ⟨q, e, _, wq⟩ := DataW.trod_int Try.underlying5 this
    simp only [List.cons.injEq, and_true] at e
    rw [e]
    exact byte_of wq
  obtain ⟨b1, rfl⟩ := hb 0 (by omega) a1 rfl
  obtain ⟨b2, rfl⟩ := hb 1 (by omega) a2 rfl
  obtain ⟨b3, rfl⟩ := hb 2 (by omega) a3 rfl
  obtain ⟨b4, rfl⟩ := hb 3 (by omega) a4 rfl
  simp only [List.cons.injEq, and_true] at e
  have hp := bounds_i64 wp
  exact ⟨⟨p, [b1, b2, b3, b4]⟩, ⟨rfl, hp.1, hp.2⟩, by rw [e]; rfl⟩

set_option maxRecDepth 10000 in
theorem open_ws {H : Type} {enc : TypeId × Value → H} {w : World} {base : Nat} {spare : Nat → Bool} {held : Bool} {v : Value} {d : DataW H} {ps : List MemPlace} {r : Reach} {b0 : Nat}
    (hv : Value.okWide Try.prog w r b0 23 v) (h : DataW.Trod enc Try.prog w base spare held 23 v d ps) : ∃ ws, WsAt w w.heap.size v ws ∧ (∀ o ∈ ws, o.ok) ∧ ws.length ≤ Rows.uptoBulk d := by
  obtain ⟨a, len, cap, rfl⟩ := okWide_slice Try.underlying23 hv
  obtain ⟨fuel, hf⟩ := h
  rcases open_slice Try.underlying23 hf with ⟨hc, hx⟩ | ⟨a', len', cap', m, n, Df, Pl, hc, _, hl, hm, hmm, hx, hi⟩
  · simp only [Value.cells, List.cons.injEq, and_true] at hc
    injection hc with h1 h2 h3
    subst h1 h2 h3
    exact ⟨[], .inl ⟨rfl, none, 0, rfl, by simp [maxLen]⟩, by simp, Nat.zero_le _⟩
  · simp only [Value.cells, List.cons.injEq, and_true] at hc
    injection hc with h1 h2 h3
    subst h1 h2 h3
    rw [cells_wrote] at hi
    have hlm : len ≤ m := by rw [hmm]; split <;> omega
    have hex : ∀ i, i < len → ∃ o : Wr, o.ok ∧ ∀ j u, o.cells[j]? = some u → w.cell? (a'.add (i * 5 + j)) = some u := by
      intro i hil
      obtain ⟨cs', hcs, ht⟩ := hi i (by omega)
      obtain ⟨o, ho, rfl⟩ := open_wr ht
      obtain ⟨_, hcl, hat⟩ := World.cells?_some hcs
      refine ⟨o, ho, fun j u hj => ?_⟩
      have hjl := (List.getElem?_eq_some_iff.1 hj).1
      rw [← Go.Deep.add_add, hat j (by omega)]
      exact hj
    obtain ⟨f, hf'⟩ := choose_lt hex
    simp only [Prod.mk.injEq] at hx
    refine ⟨(List.range len).map f, ?_, ?_, ?_⟩
    · by_cases h0 : len = 0
      · subst h0
        exact .inl ⟨rfl, some a', cap, rfl, hm⟩
      · have hok0 := (hf' 0 (by omega)).2 0 (.int .i64 (f 0).page) rfl
        have hs : a'.spot = none := by
          cases hsp : a'.spot with
          | none => rfl
          | some s =>
            simp only [Nat.zero_mul, Nat.add_zero] at hok0
            have e : a'.add 0 = a' := by unfold Addr.add; simp
            rw [e] at hok0
            unfold World.cell? at hok0
            split at hok0
            · simp [hsp] at hok0
            · cases hok0
        obtain ⟨g, o, sp⟩ := a'
        simp only at hs
        subst hs
        have hg := World.block_lt_of_cell? w _ hok0
        simp only [Nat.zero_mul, Nat.add_zero, Addr.add_mid] at hg
        refine .inr ⟨g, o, cap, by simp, by simpa using hl, hm, hg, hg, fun j u hj => ?_⟩
        have key : ∀ n, n ≤ len → ∀ j u, (((List.range n).map f).flatMap Wr.cells)[j]? = some u → w.cell? ⟨g, o + j, none⟩ = some u := by
          intro n
          induction n with
          | zero => intro _ j u h; simp at h
          | succ n ih =>
            intro hn j u h
            have hlen : (((List.range n).map f).flatMap Wr.cells).length = n * 5 := by
              have : ∀ k, k ≤ len → (((List.range k).map f).flatMap Wr.cells).length = k * 5 := by
                intro k
                induction k with
                | zero => intro _; rfl
                | succ k ihk =>
                  intro hk
                  have h1 := ihk (by omega)
                  have h2 := (hf' k (by omega)).1.1
                  rw [List.range_succ, List.map_append, List.flatMap_append, List.length_append, h1]
                  simp [Wr.cells, h2]
                  omega
              exact this n (by omega)
            rw [List.range_succ, List.map_append, List.flatMap_append] at h
            rcases Nat.lt_or_ge j (n * 5) with hlt | hge
            · rw [List.getElem?_append_left (by omega)] at h
              exact ih (by omega) j u h
            · rw [List.getElem?_append_right (by omega), hlen] at h
              simp only [List.map_cons, List.map_nil, List.flatMap_cons, List.flatMap_nil, List.append_nil] at h
              have := (hf' n (by omega)).2 (j - n * 5) u h
              rw [Addr.add_mid] at this
              rw [show o + j = o + (n * 5 + (j - n * 5)) by omega]
              exact this
        exact key len (Nat.le_refl _) j u hj
    · intro x hx'
      obtain ⟨i, hi', rfl⟩ := List.mem_map.1 hx'
      exact (hf' i (List.mem_range.1 hi')).1
    · rw [hx.1]
      have := bulk_slice ((List.range len).map Df) ((List.range (m - len)).map fun j => Df (len + j))
      simpa using this
end Go.Proofs.Ytbjffjplpnnhoaa
