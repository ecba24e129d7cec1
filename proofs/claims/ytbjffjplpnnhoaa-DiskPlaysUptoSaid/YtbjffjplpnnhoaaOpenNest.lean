/-
  An argument that is a slice of lists: of writes, or of bytes.
-/
import Derived.Test.YtbjffjplpnnhoaaOpenWs
import Derived.Test.YtbjffjplpnnhoaaOpenBs
namespace Go.Proofs.Ytbjffjplpnnhoaa
set_option linter.unusedVariables false
set_option linter.unusedSimpArgs false
open Go.ChangeShapes Go.WideShapes Go.ChangeAt Go.RowKit Go.Deep

theorem bulk_mem' {H : Type} {d : DataW H} {l : List (DataW H)} (h : d ∈ l) : Rows.uptoBulk d ≤ Rows.uptoBulkAll l := by
  induction l with
  | nil => cases h
  | cons x l ih =>
    simp only [Rows.uptoBulkAll]
    rcases List.mem_cons.1 h with rfl | h
    · omega
    · have := ih h; omega
theorem bulk_elem {H : Type} {d : DataW H} {elems spare : List (DataW H)} (h : d ∈ elems) : Rows.uptoBulk d ≤ Rows.uptoBulk (.slice elems spare) := by
  have := bulk_mem' h
  simp only [Rows.uptoBulk]
  omega
/-- v is a slice of lists that read, each in its cell, as P says. -/
def NestAt {A : Type} (P : Value → A → Prop) (w : World) (v : Value) (l : List A) : Prop :=
  (l = [] ∧ ∃ a c, v = .slice a 0 c ∧ c ≤ maxLen) ∨ ∃ g o cap, v = .slice (some ⟨g, o, none⟩) l.length cap ∧ l.length ≤ cap ∧ cap ≤ maxLen ∧ g < w.heap.size ∧ ∀ k (hk : k < l.length), ∃ u, w.cell? ⟨g, o + k, none⟩ = some u ∧ P u l[k]
theorem NestAt.form {A : Type} {P : Value → A → Prop} {w : World} {v : Value} {l : List A} (h : NestAt P w v l) : ∃ a c, v = .slice a l.length c ∧ l.length ≤ c ∧ c ≤ maxLen := by
  rcases h with ⟨rfl, a, c, rfl, hc⟩ | ⟨g, o, cap, rfl, h1, h2, _⟩
  · exact ⟨a, c, rfl, Nat.zero_le _, hc⟩
  · exact ⟨_, _, rfl, h1, h2⟩
theorem NestAt.at {A : Type} {P : Value → A → Prop} {w : World} {a : Option Addr} {n c : Nat} {l : List A} (h : NestAt P w (.slice a n c) l) {k : Nat} (hk : k < l.length) : ∃ g o u, a = some ⟨g, o, none⟩ ∧ g < w.heap.size ∧ w.cell? ⟨g, o + k, none⟩ = some u ∧ P u l[k] := by
  rcases h with ⟨h0, _⟩ | ⟨g, o, cap, hv, _, _, h3, h4⟩
  · subst h0; simp at hk
  · injection hv with e _ _
    obtain ⟨u, h5, h6⟩ := h4 k hk
    exact ⟨g, o, u, e, h3, h5, h6⟩
def WssAt (w : World) : Value → List (List Wr) → Prop := NestAt (fun u ws => WsAt w w.heap.size u ws ∧ ∀ o ∈ ws, o.ok) w
def BssAt (w : World) : Value → List (List UInt8) → Prop := NestAt (fun u l => BytesAt w u l ∧ ∀ k, u.elemBlock = some k → k < w.heap.size) w
theorem cells_wrotes : Try.prog.cellsOf 23 = 1 := by kernel_rfl
theorem cells_bytes' : Try.prog.cellsOf 29 = 1 := by kernel_rfl

set_option maxRecDepth 10000 in
theorem open_ws_cell {H : Type} {enc : TypeId × Value → H} {w : World} {base : Nat} {spare : Nat → Bool} {held : Bool} {fuel : Nat} {cs : List Value} {d : DataW H} {ps : List MemPlace}
    (hf : DataW.trod enc Try.prog w base spare held fuel 23 cs = some (d, ps)) : ∃ v ws, cs = [v] ∧ WsAt w w.heap.size v ws ∧ (∀ o ∈ ws, o.ok) ∧ ws.length ≤ Rows.uptoBulk d := by
  rcases open_slice Try.underlying23 hf with ⟨hc, hx⟩ | ⟨a', len, cap, m, n, Df, Pl, hc, _, hl, hm, hmm, hx, hi⟩
  · exact ⟨_, [], hc, .inl ⟨rfl, none, 0, rfl, by simp [maxLen]⟩, by simp, Nat.zero_le _⟩
  · rw [cells_wrote] at hi
    have hlm : len ≤ m := by rw [hmm]; split <;> omega
    have hex : ∀ i, i < len → ∃ o : Wr, o.ok ∧ ∀ j u, o.cells[j]? = some u → w.cell? (a'.add (i * 5 + j)) = some u := by
      intro i hil
      obtain ⟨cs', hcs, ht⟩ := hi i (by omega)
      obtain ⟨o, ho, rfl⟩ := open_wr ht
      obtain ⟨_, hcl, hat⟩ := World.cells?_some hcs
      refine ⟨o, ho, fun j u hj => ?_⟩
      have hjl := (List.getElem?_eq_some_iff.1 hj).1
      rw [← Go.Deep.add_add, hat j (by omega)]
      exact hj
    obtain ⟨f, hf'⟩ := choose_lt hex
    simp only [Prod.mk.injEq] at hx
    refine ⟨_, (List.range len).map f, hc, ?_, ?_, ?_⟩
    · by_cases h0 : len = 0
      · subst h0
        exact .inl ⟨rfl, some a', cap, rfl, hm⟩
      · have hok0 := (hf' 0 (by omega)).2 0 (.int .i64 (f 0).page) rfl
        have hs : a'.spot = none := by
          cases hsp : a'.spot with
          | none => rfl
          | some s =>
            simp only [Nat.zero_mul, Nat.add_zero] at hok0
            have e : a'.add 0 = a' := by unfold Addr.add; simp
            rw [e] at hok0
            unfold World.cell? at hok0
            split at hok0
            · simp [hsp] at hok0
            · cases hok0
        obtain ⟨g, o, sp⟩ := a'
        simp only at hs
        subst hs
        have hg := World.block_lt_of_cell? w _ hok0
        simp only [Nat.zero_mul, Nat.add_zero, Addr.add_mid] at hg
        refine .inr ⟨g, o, cap, by simp, by simpa using hl, hm, hg, hg, fun j u hj => ?_⟩
        have key : ∀ n, n ≤ len → ∀ j u, (((List.range n).map f).flatMap Wr.cells)[j]? = some u → w.cell? ⟨g, o + j, none⟩ = some u := by
          intro n
          induction n with
          | zero => intro _ j u h; simp at h
          | succ n ih =>
            intro hn j u h
            have hlen : (((List.range n).map f).flatMap Wr.cells).length = n * 5 := by
              have : ∀ k, k ≤ len → (((List.range k).map f).flatMap Wr.cells).length = k * 5 := by
                intro k
                induction k with
                | zero => intro _; rfl
                | succ k ihk =>
                  intro hk
                  have h1 := ihk (by omega)
                  have h2 := (hf' k (by omega)).1.1
                  rw [List.range_succ, List.map_append, List.flatMap_append, List.length_append, h1]
                  simp [Wr.cells, h2]
                  omega
              exact this n (by omega)
            rw [List.range_succ, List.map_append, List.flatMap_append] at h
            rcases Nat.lt_or_ge j (n * 5) with hlt | hge
            · rw [List.getElem?_append_left (by omega)] at h
              exact ih (by omega) j u h
            · rw [List.getElem?_append_right (by omega), hlen] at h
              simp only [List.map_cons, List.map_nil, List.flatMap_cons, List.flatMap_nil, List.append_nil] at h
              have := (hf' n (by omega)).2 (j - n * 5) u h
              rw [Addr.add_mid] at this
              rw [show o + j = o + (n * 5 + (j - n * 5)) by omega]
              exact this
        exact key len (Nat.le_refl _) j u hj
    · intro x hx'
      obtain ⟨i, hi', rfl⟩ := List.mem_map.1 hx'
      exact (hf' i (List.mem_range.1 hi')).1
    · rw [hx.1]
      have := bulk_slice ((List.range len).map Df) ((List.range (m - len)).map fun j => Df (len + j))
      simpa using this
set_option maxRecDepth 10000 in
theorem open_bs_cell' {H : Type} {enc : TypeId × Value → H} {w : World} {base : Nat} {spare : Nat → Bool} {held : Bool} {fuel : Nat} {cs : List Value} {d : DataW H} {ps : List MemPlace}
    (hf : DataW.trod enc Try.prog w base spare held fuel 29 cs = some (d, ps)) : ∃ v l, cs = [v] ∧ BytesAt w v l ∧ (∀ k, v.elemBlock = some k → k < w.heap.size) ∧ l.length ≤ Rows.uptoBulk d := by
  rcases open_slice1 Try.underlying29 cells_u8' hf with ⟨hc, hx⟩ | ⟨a', len, cap, m, n, V, Df, Pl, hc, _, hl, hm, hmm, hx, hi⟩
  · exact ⟨_, [], hc, .inl ⟨rfl, none, 0, rfl, by simp [maxLen]⟩, by simp [Value.elemBlock], Nat.zero_le _⟩
  · have hlm : len ≤ m := by rw [hmm]; split <;> omega
    have hex : ∀ i, i < len → ∃ c : UInt8, V i = B c := by
      intro i hil
      obtain ⟨_, ht⟩ := hi i (by omega)
      obtain ⟨q, e, _, wq⟩ := DataW.trod_int Try.underlying5 ht
      simp only [List.cons.injEq, and_true] at e
      have hb := bounds_u8 wq
      refine ⟨q.toNat.toUInt8, ?_⟩
      rw [e]
      unfold B
      congr 1
      simp
      omega
    obtain ⟨f, hf'⟩ := choose_lt hex
    simp only [Prod.mk.injEq] at hx
    refine ⟨_, (List.range len).map f, hc, ?_, ?_, ?_⟩
    · by_cases h0 : len = 0
      · subst h0
        exact .inl ⟨rfl, some a', cap, rfl, hm⟩
      · have hok0 := (hi 0 (by omega)).1
        have e0 : a'.add 0 = a' := by unfold Addr.add; simp
        rw [e0] at hok0
        have hs := spot_none_of hok0
        obtain ⟨g, o, sp⟩ := a'
        simp only at hs
        subst hs
        have hg := World.block_lt_of_cell? w _ hok0
        refine .inr ⟨g, o, cap, by simp, by simpa using hl, hm, hg, fun j u hj => ?_⟩
        have hj' : j < len := by
          have := (List.getElem?_eq_some_iff.1 hj).1
          simpa using this
        simp only [List.getElem?_map, List.getElem?_range hj', Option.map_some, Option.some.injEq] at hj
        have := (hi j (by omega)).1
        rw [hf' j hj', Addr.add_mid, hj] at this
        exact this
    · intro k hk
      unfold Value.elemBlock at hk
      split at hk
      · rename_i a1 n1 c1 heq
        injection heq with h1 h2 _
        injection h1 with h1
        subst h1 h2
        have hok0 := (hi 0 (by omega)).1
        have e0 : a'.add 0 = a' := by unfold Addr.add; simp
        rw [e0] at hok0
        have hg := World.block_lt_of_cell? w _ hok0
        injection hk with hk
        omega
      · cases hk
    · rw [hx.1]
      have := bulk_slice ((List.range len).map Df) ((List.range (m - len)).map fun j => Df (len + j))
      simpa using this
set_option maxRecDepth 10000 in
theorem open_wss {H : Type} {enc : TypeId × Value → H} {w : World} {base : Nat} {spare : Nat → Bool} {held : Bool} {v : Value} {d : DataW H} {ps : List MemPlace} {r : Reach} {b0 : Nat}
    (hv : Value.okWide Try.prog w r b0 35 v) (h : DataW.Trod enc Try.prog w base spare held 35 v d ps) : ∃ l, WssAt w v l ∧ (∀ x ∈ l, x.length ≤ Rows.uptoBulk d) ∧ l.length ≤ Rows.uptoBulk d := by
  obtain ⟨a, len, cap, rfl⟩ := okWide_slice Try.underlying35 hv
  obtain ⟨fuel, hf⟩ := h
  rcases open_slice1 Try.underlying35 cells_wrotes hf with ⟨hc, hx⟩ | ⟨a', len', cap', m, n, V, Df, Pl, hc, _, hl, hm, hmm, hx, hi⟩
  · simp only [Value.cells, List.cons.injEq, and_true] at hc
    injection hc with h1 h2 h3
    subst h1 h2 h3
    exact ⟨[], .inl ⟨rfl, none, 0, rfl, by simp [maxLen]⟩, by simp, Nat.zero_le _⟩
  · simp only [Value.cells, List.cons.injEq, and_true] at hc
    injection hc with h1 h2 h3
    subst h1 h2 h3
    have hlm : len ≤ m := by rw [hmm]; split <;> omega
    have hex : ∀ i, i < len → ∃ x : List Wr, (WsAt w w.heap.size (V i) x ∧ ∀ o ∈ x, o.ok) ∧ x.length ≤ Rows.uptoBulk (Df i) := by
      intro i hil
      obtain ⟨_, ht⟩ := hi i (by omega)
      obtain ⟨u, x, e, h1, h2, h3⟩ := open_ws_cell (d := Df i) (ps := Pl i) ht
      simp only [List.cons.injEq, and_true] at e
      rw [e]
      exact ⟨x, ⟨h1, h2⟩, h3⟩
    obtain ⟨f, hf'⟩ := choose_lt hex
    simp only [Prod.mk.injEq] at hx
    refine ⟨(List.range len).map f, ?_, ?_, ?_⟩
    · by_cases h0 : len = 0
      · subst h0
        exact .inl ⟨rfl, some a', cap, rfl, hm⟩
      · have hok0 := (hi 0 (by omega)).1
        have e0 : a'.add 0 = a' := by unfold Addr.add; simp
        rw [e0] at hok0
        have hs := spot_none_of hok0
        obtain ⟨g, o, sp⟩ := a'
        simp only at hs
        subst hs
        have hg := World.block_lt_of_cell? w _ hok0
        refine .inr ⟨g, o, cap, by simp, by simpa using hl, hm, hg, fun k hk => ?_⟩
        have hk' : k < len := by simpa using hk
        have h5 := (hi k (by omega)).1
        rw [Addr.add_mid] at h5
        exact ⟨V k, h5, by simpa using (hf' k hk').1⟩
    · intro x hx'
      obtain ⟨i, hi', rfl⟩ := List.mem_map.1 hx'
      have h5 := (hf' i (List.mem_range.1 hi')).2
      have h6 : Rows.uptoBulk (Df i) ≤ Rows.uptoBulk d := by
        rw [hx.1]
        exact bulk_elem (List.mem_map.2 ⟨i, hi', rfl⟩)
      omega
    · rw [hx.1]
      have := bulk_slice ((List.range len).map Df) ((List.range (m - len)).map fun j => Df (len + j))
      simpa using this
set_option maxRecDepth 10000 in
theorem open_bss {H : Type} {enc : TypeId × Value → H} {w : World} {base : Nat} {spare : Nat → Bool} {held : Bool} {v : Value} {d : DataW H} {ps : List MemPlace} {r : Reach} {b0 : Nat}
    (hv : Value.okWide Try.prog w r b0 36 v) (h : DataW.Trod enc Try.prog w base spare held 36 v d ps) : ∃ l, BssAt w v l ∧ (∀ x ∈ l, x.length ≤ Rows.uptoBulk d) ∧ l.length ≤ Rows.uptoBulk d := by
  obtain ⟨a, len, cap, rfl⟩ := okWide_slice Try.underlying36 hv
  obtain ⟨fuel, hf⟩ := h
  rcases open_slice1 Try.underlying36 cells_bytes' hf with ⟨hc, hx⟩ | ⟨a', len', cap', m, n, V, Df, Pl, hc, _, hl, hm, hmm, hx, hi⟩
  · simp only [Value.cells, List.cons.injEq, and_true] at hc
    injection hc with h1 h2 h3
    subst h1 h2 h3
    exact ⟨[], .inl ⟨rfl, none, 0, rfl, by simp [maxLen]⟩, by simp, Nat.zero_le _⟩
  · simp only [Value.cells, List.cons.injEq, and_true] at hc
    injection hc with h1 h2 h3
    subst h1 h2 h3
    have hlm : len ≤ m := by rw [hmm]; split <;> omega
    have hex : ∀ i, i < len → ∃ x : List UInt8, (BytesAt w (V i) x ∧ ∀ k, (V i).elemBlock = some k → k < w.heap.size) ∧ x.length ≤ Rows.uptoBulk (Df i) := by
      intro i hil
      obtain ⟨_, ht⟩ := hi i (by omega)
      obtain ⟨u, x, e, h1, h2, h3⟩ := open_bs_cell' (d := Df i) (ps := Pl i) ht
      simp only [List.cons.injEq, and_true] at e
      rw [e]
      exact ⟨x, ⟨h1, h2⟩, h3⟩
    obtain ⟨f, hf'⟩ := choose_lt hex
    simp only [Prod.mk.injEq] at hx
    refine ⟨(List.range len).map f, ?_, ?_, ?_⟩
    · by_cases h0 : len = 0
      · subst h0
        exact .inl ⟨rfl, some a', cap, rfl, hm⟩
      · have hok0 := (hi 0 (by omega)).1
        have e0 : a'.add 0 = a' := by unfold Addr.add; simp
        rw [e0] at hok0
        have hs := spot_none_of hok0
        obtain ⟨g, o, sp⟩ := a'
        simp only at hs
        subst hs
        have hg := World.block_lt_of_cell? w _ hok0
        refine .inr ⟨g, o, cap, by simp, by simpa using hl, hm, hg, fun k hk => ?_⟩
        have hk' : k < len := by simpa using hk
        have h5 := (hi k (by omega)).1
        rw [Addr.add_mid] at h5
        exact ⟨V k, h5, by simpa using (hf' k hk').1⟩
    · intro x hx'
      obtain ⟨i, hi', rfl⟩ := List.mem_map.1 hx'
      have h5 := (hf' i (List.mem_range.1 hi')).2
      have h6 : Rows.uptoBulk (Df i) ≤ Rows.uptoBulk d := by
        rw [hx.1]
        exact bulk_elem (List.mem_map.2 ⟨i, hi', rfl⟩)
      omega
    · rw [hx.1]
      have := bulk_slice ((List.range len).map Df) ((List.range (m - len)).map fun j => Df (len + j))
      simpa using this
end Go.Proofs.Ytbjffjplpnnhoaa
