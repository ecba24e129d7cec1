/-
  Lemmas of a claim, bundle O: XOpen XOpenBs.
-/
import Derived.ProofKit
import Derived.OpenShut
import Derived.JoinedCond
import Derived.Deep.Slices
import Derived.ChangeSame
import Derived.Test.YtojlojdkhegbkaaDoorRfB
/-
  A law's arguments out of their reading, and the end of a law that leaves all that was there as it was.
-/
namespace Go.Proofs.YtojlojdkhegbkaaDoor
set_option linter.unusedVariables false
set_option linter.unusedSimpArgs false
open Go.ChangeShapes Go.WideShapes Go.ChangeAt Go.RowKit Go.Deep

theorem own : ownKnob Tryd.prog.godebug = none := by kernel_rfl
theorem laidOut : laidOutB Tryd.prog = true := by kernel_rfl

section
variable {H : Type} {enc : TypeId × Value → H} {P : Program} {W W' : World}
theorem trodAll_below (hl : laidOutB P = true) (hb : Below W.heap.size W W') : ∀ {ts : List TypeId} {vs : List Value} {ds : List (DataW H)} {ps : List MemPlace}, ts.all (fun t => P.readableRec t && decide (t < P.types.size)) = true →
    DataW.TrodAll enc P W 0 (fun _ => true) true ts vs ds ps → (∀ x ∈ ps, x.block < W.heap.size) → DataW.TrodAll enc P W' 0 (fun b => decide (b < W.heap.size)) true ts vs ds ps := by
  intro ts
  induction ts with
  | nil =>
    intro vs ds ps _ h _
    obtain ⟨rfl, rfl, rfl⟩ := trodAll_nil h
    exact trodAll_mk0
  | cons t ts ih =>
    intro vs ds ps hr h hlt
    obtain ⟨v, vs', d, ds', p, q, rfl, rfl, rfl, h0, h1⟩ := trodAll_cons h
    simp only [List.all_cons, Bool.and_eq_true, decide_eq_true_eq] at hr
    exact trodAll_cons_mk (Below.trod hl hr.1.1 hr.1.2 h0 hb (fun x hx => hlt x (by simp [hx]))) (ih hr.2 h1 (fun x hx => hlt x (by simp [hx])))

/-- THE END OF A LAW: it has returned true, and nothing that was there has turned. -/
theorem law_post {f : Func} {s : ChangeSpec} {args : Array Value} {ds gs : List (DataW H)} {before : List MemPlace} {tb : TypeId} (hl : laidOutB P = true) (hW : DataW.Whole enc P f.params.toList s.vars false W args.toList ds gs before)
    (hr : f.params.toList.all (fun t => P.readableRec t && decide (t < P.types.size)) = true) (hvars : s.vars = []) (hres : f.resultTypes = #[tb]) (htb : P.underlying tb = some .bool)
    (hs : ∀ ds' : List (DataW H), ds' = ds → (s.fn H (ds' ++ gs)).results = [.lit (.bool true)] ∧ (s.fn H (ds' ++ gs)).args = ds ∧ (s.fn H (ds' ++ gs)).vars = []) (hb : Below W.heap.size W W') :
    s.post enc P f false true false false W args (.bool true) W' := by
  obtain ⟨h1, h2, h3⟩ := hs ds rfl
  have hlt := hW.lt
  obtain ⟨p, q, hA, hV, hpq, _, _⟩ := id hW
  have hAll := trodAll_below hl hb hr hA (fun x hx => hlt x (by rw [hpq]; simp [hx]))
  refine ⟨ds, gs, before, [], p, [], hW, ?_, ?_, ?_, hb.frame _, fun h => by cases h⟩
  · rw [h1, hres]
    exact trodAll_mk1 (shut_bool htb true)
  · rw [h2]; exact hAll
  · rw [h3, hvars]
    rfl
end

/-! ### what the bound gives -/
theorem bulk_one {H : Type} (d : DataW H) : 1 ≤ Rows.uptoBulk d := by
  cases d with
  | lit l => cases l <;> simp [Rows.uptoBulk]
  | _ => simp [Rows.uptoBulk]
theorem bulk_length {H : Type} (l : List (DataW H)) : l.length ≤ Rows.uptoBulkAll l := by
  induction l with
  | nil => simp [Rows.uptoBulkAll]
  | cons x r ih => have := bulk_one x; simp only [Rows.uptoBulkAll, List.length_cons]; omega
theorem bulk_slice {H : Type} (elems spare : List (DataW H)) : elems.length ≤ Rows.uptoBulk (.slice elems spare) := by
  have h1 := bulk_length elems
  simp only [Rows.uptoBulk]
  omega
theorem bulk_append {H : Type} (l r : List (DataW H)) : Rows.uptoBulkAll (l ++ r) = Rows.uptoBulkAll l + Rows.uptoBulkAll r := by
  induction l with
  | nil => simp [Rows.uptoBulkAll]
  | cons x l ih => simp only [List.cons_append, Rows.uptoBulkAll, ih]; omega
theorem bulk_bound {H : Type} {l : List (DataW H)} (hk : Rows.uptoSmall H l = true) : Rows.uptoBulkAll l ≤ 1048576 := of_decide_eq_true hk
end Go.Proofs.YtojlojdkhegbkaaDoor

/-
  An argument that is a slice of bytes.
-/
namespace Go.Proofs.YtojlojdkhegbkaaDoor
set_option linter.unusedVariables false
set_option linter.unusedSimpArgs false
open Go.ChangeShapes Go.WideShapes Go.ChangeAt Go.RowKit Go.Deep

theorem cells_u8' : Tryd.prog.cellsOf 5 = 1 := by kernel_rfl
/-- A cell that reads has no spot. -/
theorem spot_none_of {w : World} {a : Addr} {v : Value} (h : w.cell? a = some v) : a.spot = none := by
  cases hsp : a.spot with
  | none => rfl
  | some s =>
    unfold World.cell? at h
    split at h
    · simp [hsp] at h
    · cases h
set_option maxRecDepth 10000 in
theorem open_bs {H : Type} {enc : TypeId × Value → H} {w : World} {base : Nat} {spare : Nat → Bool} {held : Bool} {v : Value} {d : DataW H} {ps : List MemPlace} {r : Reach} {b0 : Nat}
    (hv : Value.okWide Tryd.prog w r b0 25 v) (h : DataW.Trod enc Tryd.prog w base spare held 25 v d ps) : ∃ l, BytesAt w v l ∧ (∀ k, v.elemBlock = some k → k < w.heap.size) ∧ l.length ≤ Rows.uptoBulk d := by
  obtain ⟨a, len, cap, rfl⟩ := okWide_slice Tryd.underlying25 hv
  obtain ⟨fuel, hf⟩ := h
  rcases open_slice1 Tryd.underlying25 cells_u8' hf with ⟨hc, hx⟩ | ⟨a', len', cap', m, n, V, Df, Pl, hc, _, hl, hm, hmm, hx, hi⟩
  · simp only [Value.cells, List.cons.injEq, and_true] at hc
    injection hc with h1 h2 h3
    subst h1 h2 h3
    exact ⟨[], .inl ⟨rfl, none, 0, rfl, by simp [maxLen]⟩, by simp [Value.elemBlock], Nat.zero_le _⟩
  · simp only [Value.cells, List.cons.injEq, and_true] at hc
    injection hc with h1 h2 h3
    subst h1 h2 h3
    have hlm : len ≤ m := by rw [hmm]; split <;> omega
    have hex : ∀ i, i < len → ∃ c : UInt8, V i = B c := by
      intro i hil
      obtain ⟨_, ht⟩ := hi i (by omega)
      obtain ⟨q, e, _, wq⟩ := DataW.trod_int Tryd.underlying5 ht
      simp only [List.cons.injEq, and_true] at e
      have hb := bounds_u8 wq
      refine ⟨q.toNat.toUInt8, ?_⟩
      rw [e]
      unfold B
      congr 1
      simp
      omega
    obtain ⟨f, hf'⟩ := choose_lt hex
    simp only [Prod.mk.injEq] at hx
    refine ⟨(List.range len).map f, ?_, ?_, ?_⟩
    · by_cases h0 : len = 0
      · subst h0
        exact .inl ⟨rfl, some a', cap, rfl, hm⟩
      · have hok0 := (hi 0 (by omega)).1
        have e0 : a'.add 0 = a' := by unfold Addr.add; simp
        rw [e0] at hok0
        have hs := spot_none_of hok0
        obtain ⟨g, o, sp⟩ := a'
        simp only at hs
        subst hs
        have hg := World.block_lt_of_cell? w _ hok0
        refine .inr ⟨g, o, cap, by simp, by simpa using hl, hm, hg, fun j u hj => ?_⟩
        have hj' : j < len := by
          have := (List.getElem?_eq_some_iff.1 hj).1
          simpa using this
        simp only [List.getElem?_map, List.getElem?_range hj', Option.map_some, Option.some.injEq] at hj
        have := (hi j (by omega)).1
        rw [hf' j hj', Addr.add_mid, hj] at this
        exact this
    · intro k hk
      unfold Value.elemBlock at hk
      split at hk
      · rename_i a1 n1 c1 heq
        injection heq with h1 h2 _
        injection h1 with h1
        subst h1 h2
        have hok0 := (hi 0 (by omega)).1
        have e0 : a'.add 0 = a' := by unfold Addr.add; simp
        rw [e0] at hok0
        have hg := World.block_lt_of_cell? w _ hok0
        injection hk with hk
        omega
      · cases hk
    · rw [hx.1]
      have := bulk_slice ((List.range len).map Df) ((List.range (m - len)).map fun j => Df (len + j))
      simpa using this
end Go.Proofs.YtojlojdkhegbkaaDoor
