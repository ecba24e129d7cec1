/-
  Lemmas of a claim, bundle P: XOpenPf XOpenKey.
-/
import Derived.Lib.SmallJoins
import Derived.Test.YtojlojdkhegbkaaDoorRfO
import Derived.Test.YtojlojdkhegbkaaDoorRfJ
/-
  An argument that is a proof (api.Proof).
-/
namespace Go.Proofs.YtojlojdkhegbkaaDoor
set_option linter.unusedVariables false
set_option linter.unusedSimpArgs false
open Go.ChangeShapes Go.WideShapes Go.ChangeAt Go.RowKit Go.Deep Go.Lib Go.Joins

section
variable {H : Type} {enc : TypeId × Value → H} {w : World} {base : Nat} {spare : Nat → Bool} {held : Bool} {fuel : Nat} {cs : List Value} {d : DataW H} {ps : List MemPlace}

set_option maxRecDepth 10000 in
theorem open_bs_cell (hf : DataW.trod enc Tryd.prog w base spare held fuel 25 cs = some (d, ps)) : ∃ v l, cs = [v] ∧ BytesAt w v l ∧ l.length ≤ Rows.uptoBulk d := by
  rcases open_slice1 Tryd.underlying25 cells_u8' hf with ⟨hc, hx⟩ | ⟨a', len', cap', m, n, V, Df, Pl, hc, _, hl, hm, hmm, hx, hi⟩
  · exact ⟨_, [], hc, .inl ⟨rfl, none, 0, rfl, by simp [maxLen]⟩, Nat.zero_le _⟩
  · have hlm : len' ≤ m := by rw [hmm]; split <;> omega
    have hex : ∀ i, i < len' → ∃ c : UInt8, V i = B c := by
      intro i hil
      obtain ⟨_, ht⟩ := hi i (by omega)
      obtain ⟨q, e, _, wq⟩ := DataW.trod_int Tryd.underlying5 ht
      simp only [List.cons.injEq, and_true] at e
      have hb := bounds_u8 wq
      refine ⟨q.toNat.toUInt8, ?_⟩
      rw [e]
      unfold B
      congr 1
      simp
      omega
    obtain ⟨f, hf'⟩ := choose_lt hex
    simp only [Prod.mk.injEq] at hx
    refine ⟨_, (List.range len').map f, hc, ?_, ?_⟩
    · by_cases h0 : len' = 0
      · subst h0
        exact .inl ⟨rfl, some a', cap', rfl, hm⟩
      · have hok0 := (hi 0 (by omega)).1
        have e0 : a'.add 0 = a' := by unfold Addr.add; simp
        rw [e0] at hok0
        have hs := spot_none_of hok0
        obtain ⟨g, o, sp⟩ := a'
        simp only at hs
        subst hs
        have hg := World.block_lt_of_cell? w _ hok0
        refine .inr ⟨g, o, cap', by simp, by simpa using hl, hm, hg, fun j u hj => ?_⟩
        have hj' : j < len' := by
          have := (List.getElem?_eq_some_iff.1 hj).1
          simpa using this
        simp only [List.getElem?_map, List.getElem?_range hj', Option.map_some, Option.some.injEq] at hj
        have := (hi j (by omega)).1
        rw [hf' j hj', Addr.add_mid, hj] at this
        exact this
    · rw [hx.1]
      have := bulk_slice ((List.range len').map Df) ((List.range (m - len')).map fun j => Df (len' + j))
      simpa using this

set_option maxRecDepth 10000 in
theorem open_row32 {t : TypeId} (hu : Tryd.prog.underlying t = some (.array 32 5)) (hc : Tryd.prog.cellsOf t = 32) {x : DataW H × List MemPlace} (h : DataW.trod enc Tryd.prog w base spare held fuel t cs = some x) : ∃ s : List UInt8, s.length = 32 ∧ cs = s.map B := by
  obtain ⟨ys, m, _, _, hl, hyl, hg⟩ := DataW.trod_array hu h
  simp only [cells_u8'] at hg
  rw [hc] at hl
  have hex : ∀ i, i < 32 → ∃ c : UInt8, cs[i]? = some (B c) := by
    intro i hi
    have := hg i hi
    have hi' : i < cs.length := by omega
    rw [Nat.mul_one, List.drop_eq_getElem_cons hi', List.take_succ_cons, List.take_zero, List.getElem?_eq_getElem (by omega)] at this
    obtain ⟨q, e, _, wq⟩ := DataW.trod_int Tryd.underlying5 this
    simp only [List.cons.injEq, and_true] at e
    have hb := bounds_u8 wq
    refine ⟨q.toNat.toUInt8, ?_⟩
    rw [List.getElem?_eq_getElem hi', e]
    unfold B
    congr 2
    simp
    omega
  obtain ⟨f, hf'⟩ := choose_lt hex
  refine ⟨(List.range 32).map f, by simp, List.ext_getElem? fun i => ?_⟩
  by_cases hi : i < 32
  · rw [hf' i hi]
    simp [hi]
  · rw [List.getElem?_eq_none (by omega), List.getElem?_eq_none (by simp; omega)]
theorem cells_digest : Tryd.prog.cellsOf 52 = 32 := by kernel_rfl
theorem cells_32u8 : Tryd.prog.cellsOf 22 = 32 := by kernel_rfl
theorem cells_proof : Tryd.prog.cellsOf 28 = 35 := by kernel_rfl
theorem cells_bool : Tryd.prog.cellsOf 4 = 1 := by kernel_rfl
theorem cells_bytes : Tryd.prog.cellsOf 25 = 1 := by kernel_rfl
theorem cells_digests : Tryd.prog.cellsOf 26 = 1 := by kernel_rfl

set_option maxRecDepth 10000 in
theorem open_sums_cell (hf : DataW.trod enc Tryd.prog w base spare held fuel 26 cs = some (d, ps)) : ∃ v l, cs = [v] ∧ SumsAt w v l ∧ (∀ s ∈ l, s.length = 32) ∧ l.length ≤ Rows.uptoBulk d := by
  rcases open_slice Tryd.underlying26 hf with ⟨hc, hx⟩ | ⟨a', len, cap, m, n, Df, Pl, hc, _, hl, hm, hmm, hx, hi⟩
  · exact ⟨_, [], hc, .inl ⟨rfl, none, 0, rfl, by simp [maxLen]⟩, by simp, Nat.zero_le _⟩
  · rw [cells_digest] at hi
    have hlm : len ≤ m := by rw [hmm]; split <;> omega
    have hex : ∀ i, i < len → ∃ o : List UInt8, o.length = 32 ∧ ∀ j u, (o.map B)[j]? = some u → w.cell? (a'.add (i * 32 + j)) = some u := by
      intro i hil
      obtain ⟨cs', hcs, ht⟩ := hi i (by omega)
      obtain ⟨o, ho, rfl⟩ := open_row32 Tryd.underlying52 cells_digest ht
      obtain ⟨_, hcl, hat⟩ := World.cells?_some hcs
      refine ⟨o, ho, fun j u hj => ?_⟩
      have hjl := (List.getElem?_eq_some_iff.1 hj).1
      rw [← Go.Deep.add_add, hat j (by omega)]
      exact hj
    obtain ⟨f, hf'⟩ := choose_lt hex
    simp only [Prod.mk.injEq] at hx
    refine ⟨_, (List.range len).map f, hc, ?_, ?_, ?_⟩
    · by_cases h0 : len = 0
      · subst h0
        exact .inl ⟨rfl, some a', cap, rfl, hm⟩
      · have hh0 := hf' 0 (by omega)
        have hok0 := hh0.2 0 (B ((f 0)[0]'(by omega))) (by rw [List.getElem?_map, List.getElem?_eq_getElem (by omega)]; rfl)
        have hs : a'.spot = none := by
          cases hsp : a'.spot with
          | none => rfl
          | some s =>
            simp only [Nat.zero_mul, Nat.add_zero] at hok0
            have e : a'.add 0 = a' := by unfold Addr.add; simp
            rw [e] at hok0
            unfold World.cell? at hok0
            split at hok0
            · simp [hsp] at hok0
            · cases hok0
        obtain ⟨g, o, sp⟩ := a'
        simp only at hs
        subst hs
        have hg := World.block_lt_of_cell? w _ hok0
        simp only [Nat.zero_mul, Nat.add_zero, Addr.add_mid] at hg
        refine .inr ⟨g, o, cap, by simp, by simpa using hl, hm, hg, fun j u hj => ?_⟩
        have key : ∀ n, n ≤ len → ∀ j u, (sumCells ((List.range n).map f))[j]? = some u → w.cell? ⟨g, o + j, none⟩ = some u := by
          intro n
          induction n with
          | zero => intro _ j u h; simp [sumCells] at h
          | succ n ih =>
            intro hn j u h
            have hlen : (sumCells ((List.range n).map f)).length = n * 32 := by
              have : ∀ k, k ≤ len → (sumCells ((List.range k).map f)).length = k * 32 := by
                intro k
                induction k with
                | zero => intro _; rfl
                | succ k ihk =>
                  intro hk
                  have h1 := ihk (by omega)
                  have h2 := (hf' k (by omega)).1
                  unfold sumCells at h1 ⊢
                  rw [List.range_succ, List.map_append, List.flatMap_append, List.length_append, h1]
                  simp [h2]
                  omega
              exact this n (by omega)
            unfold sumCells at h hlen ih
            rw [List.range_succ, List.map_append, List.flatMap_append] at h
            rcases Nat.lt_or_ge j (n * 32) with hlt | hge
            · rw [List.getElem?_append_left (by omega)] at h
              exact ih (by omega) j u h
            · rw [List.getElem?_append_right (by omega), hlen] at h
              simp only [List.map_cons, List.map_nil, List.flatMap_cons, List.flatMap_nil, List.append_nil] at h
              have := (hf' n (by omega)).2 (j - n * 32) u h
              rw [Addr.add_mid] at this
              rw [show o + j = o + (n * 32 + (j - n * 32)) by omega]
              exact this
        exact key len (Nat.le_refl _) j u hj
    · intro x hx'
      obtain ⟨i, hi', rfl⟩ := List.mem_map.1 hx'
      exact (hf' i (List.mem_range.1 hi')).1
    · rw [hx.1]
      have := bulk_slice ((List.range len).map Df) ((List.range (m - len)).map fun j => Df (len + j))
      simpa using this

theorem fields_proof : Tryd.prog.underlying 28 = some (.struct (Tryd.prog.fieldsOf 28)) := by kernel_rfl
set_option maxRecDepth 10000 in
/-- The cells of a proof, wherever they lie. -/
theorem open_pf_cells (hf : DataW.trod enc Tryd.prog w base spare held fuel 28 cs = some (d, ps)) : ∃ p vv sv, cs = pfCells p vv sv ∧ BytesAt w vv p.val ∧ SumsAt w sv p.sums ∧ p.ok ∧ p.val.length + p.sums.length ≤ Rows.uptoBulk d := by
  obtain ⟨y0, y1, y2, y3, n, hx, hl, h0, h1, h2, h3⟩ := trod_struct4 Tryd.underlying28 hf
  rw [cells_proof] at hl
  simp only [cells_bool, cells_bytes, cells_32u8, cells_digests, List.drop_zero] at h0 h1 h2 h3
  simp only [Prod.mk.injEq] at hx
  obtain ⟨b, e0, _⟩ := DataW.trod_bool Tryd.underlying4 h0
  obtain ⟨vv, val, e1, hv, b1⟩ := open_bs_cell (d := y1.1) (ps := y1.2) h1
  obtain ⟨bits, hb, e2⟩ := open_row32 Tryd.underlying22 cells_32u8 h2
  obtain ⟨sv, sums, e3, hs, hd, b3⟩ := open_sums_cell (d := y3.1) (ps := y3.2) h3
  have ec : cs = cs.take 1 ++ ((cs.drop 1).take 1 ++ ((cs.drop 2).take 32 ++ (cs.drop 34).take 1)) := by
    have t1 : (cs.drop 34).take 1 = cs.drop 34 := List.take_of_length_le (by rw [List.length_drop]; omega)
    have t2 : (cs.drop 2).take 32 ++ cs.drop 34 = cs.drop 2 := by
      have := List.take_append_drop 32 (cs.drop 2)
      rwa [List.drop_drop] at this
    have t3 : (cs.drop 1).take 1 ++ cs.drop 2 = cs.drop 1 := by
      have := List.take_append_drop 1 (cs.drop 1)
      rwa [List.drop_drop] at this
    rw [t1, t2, t3, List.take_append_drop]
  rw [e0, e1, e2, e3] at ec
  refine ⟨⟨b, val, bits, sums⟩, vv, sv, by rw [ec]; rfl, hv, hs, ⟨hb, hd⟩, ?_⟩
  rw [hx.1]
  simp only [Rows.uptoBulk, Rows.uptoBulkAll]
  omega
end
set_option maxRecDepth 10000 in
theorem open_pf {H : Type} {enc : TypeId × Value → H} {w : World} {base : Nat} {spare : Nat → Bool} {held : Bool} {v : Value} {d : DataW H} {ps : List MemPlace} {r : Reach} {b0 : Nat}
    (hv : Value.okWide Tryd.prog w r b0 28 v) (h : DataW.Trod enc Tryd.prog w base spare held 28 v d ps) : ∃ p, PfIn w v p ∧ p.val.length + p.sums.length ≤ Rows.uptoBulk d := by
  obtain ⟨cs, rfl, hsz⟩ := okWide_struct Tryd.underlying28 hv
  obtain ⟨fuel, hf⟩ := h
  obtain ⟨p, vv, sv, e, h1, h2, h3, h4⟩ := open_pf_cells hf
  refine ⟨p, ⟨vv, sv, ?_, h1, h2, h3⟩, h4⟩
  simp only [Value.cells] at e
  rw [← e]
end Go.Proofs.YtojlojdkhegbkaaDoor

/-
  An argument that is a key.
-/
namespace Go.Proofs.YtojlojdkhegbkaaDoor
set_option linter.unusedVariables false
set_option linter.unusedSimpArgs false
open Go.ChangeShapes Go.WideShapes Go.ChangeAt Go.RowKit Go.Deep Go.Lib Go.Joins

theorem cells_key : Tryd.prog.cellsOf 23 = 32 := by kernel_rfl
set_option maxRecDepth 10000 in
theorem open_key {H : Type} {enc : TypeId × Value → H} {w : World} {base : Nat} {spare : Nat → Bool} {held : Bool} {v : Value} {d : DataW H} {ps : List MemPlace} {r : Reach} {b0 : Nat}
    (hv : Value.okWide Tryd.prog w r b0 23 v) (h : DataW.Trod enc Tryd.prog w base spare held 23 v d ps) : ∃ l : List UInt8, l.length = 32 ∧ v = .agg (l.map B).toArray := by
  simp only [Value.okWide, Tryd.underlying23] at hv
  obtain ⟨cs, rfl, hsz⟩ := hv
  obtain ⟨fuel, hf⟩ := h
  obtain ⟨s, hs, e⟩ := open_row32 Tryd.underlying23 cells_key hf
  refine ⟨s, hs, ?_⟩
  simp only [Value.cells] at e
  rw [← e]
end Go.Proofs.YtojlojdkhegbkaaDoor
