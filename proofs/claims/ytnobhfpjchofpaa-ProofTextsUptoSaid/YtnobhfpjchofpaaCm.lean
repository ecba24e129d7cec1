/-
  Package proof: Decode, whatever the bytes.
-/
import Derived.Test.YtnobhfpjchofpaaCl
namespace Go.Proofs.Ytnobhfpjchofpaa
set_option linter.unusedVariables false
set_option linter.unusedSimpArgs false
open Go.RowKit

theorem chunks (n : Nat) : ∀ {l : List UInt8}, l.length = 32 * n → ∃ sums : List (List UInt8), l = sums.flatten ∧ (∀ s ∈ sums, s.length = 32) ∧ sums.length = n := by
  induction n with
  | zero => intro l h; exact ⟨[], by simpa using h, by simp, rfl⟩
  | succ n ih =>
    intro l h
    obtain ⟨sums, h1, h2, h3⟩ := ih (l := l.drop 32) (by rw [List.length_drop]; omega)
    refine ⟨l.take 32 :: sums, ?_, ?_, by simp [h3]⟩
    · rw [List.flatten_cons, ← h1, List.take_append_drop]
    · intro s hs
      rcases List.mem_cons.1 hs with rfl | hs
      · rw [List.length_take]; omega
      · exact h2 s hs
theorem ofNat_toNat' {n : Nat} (h : n < 256) : (UInt8.ofNat n).toNat = n := by simp; omega

theorem decode_yes {w : World} {v : Value} {p : Pf} (hv : BytesAt w v p.enc) (ho : p.ok) (hw : p.well = true) :
    Calls Try.prog 13 #[v] w fun e w' => ∃ u, e = .returned (.tuple #[u, .int .i64 0]) ∧ PfIn w' u p ∧ Keeps [] w w' := by
  obtain ⟨f, val, bits, sums⟩ := p
  obtain ⟨hb, hd⟩ := ho
  simp only at hb hd
  unfold Pf.well at hw
  simp only [Bool.and_eq_true, Bool.or_eq_true, beq_iff_eq, decide_eq_true_eq] at hw
  obtain ⟨⟨h1, h2⟩, h3⟩ := hw
  have e1 : (bits ++ sums.flatten).take 32 = bits := by rw [List.take_append_of_le_length (by omega), List.take_of_length_le (by omega)]
  have e2 : (bits ++ sums.flatten).drop 32 = sums.flatten := by rw [List.drop_append_of_le_length (by omega), List.drop_of_length_le (by omega), List.nil_append]
  have key : AnsYes (Pf.enc ⟨f, val, bits, sums⟩) f val (bits ++ sums.flatten) := by
    cases f with
    | true =>
      have hn : (UInt8.ofNat val.length).toNat = val.length := ofNat_toNat' (by omega)
      have h := ansYes_full (x := UInt8.ofNat val.length) (y := 0) (t := val ++ (bits ++ sums.flatten)) (n := val.length) (by rw [hn]; rfl) h2 (by rw [List.length_append]; omega)
      rw [List.take_append_of_le_length (Nat.le_refl _), List.take_length, List.drop_append_of_le_length (Nat.le_refl _), List.drop_length, List.nil_append] at h
      have e : Pf.enc ⟨true, val, bits, sums⟩ = 1 :: UInt8.ofNat val.length :: 0 :: (val ++ (bits ++ sums.flatten)) := by simp [Pf.enc, Pf.head]
      rw [e]
      exact h
    | false =>
      have hv0 : val = [] := List.eq_nil_of_length_eq_zero (h1.resolve_left (by simp))
      subst hv0
      have e : Pf.enc ⟨false, [], bits, sums⟩ = 0 :: (bits ++ sums.flatten) := by simp [Pf.enc, Pf.head]
      rw [e]
      exact ansYes_zero
  have h := decode_good hv key (by rw [List.length_append]; omega) e2 hd (by rw [e1]; exact h3)
  rw [e1] at h
  exact h

theorem decode_no {w : World} {v : Value} {l : List UInt8} (hv : BytesAt w v l) (hn : ¬ ∃ p : Pf, p.ok ∧ p.well = true ∧ l = p.enc) :
    Calls Try.prog 13 #[v] w fun e w' => ∃ u, e = .returned (.tuple #[u, .int .i64 120]) ∧ PfIn w' u pf0 ∧ Keeps [] w w' := by
  have key : ∀ (f : Bool) (x t : List UInt8), AnsYes l f x t → (32 ≤ t.length → (t.drop 32).length = 32 * onesOf (t.take 32) → False) → Calls Try.prog 13 #[v] w fun e w' => ∃ u, e = .returned (.tuple #[u, .int .i64 120]) ∧ PfIn w' u pf0 ∧ Keeps [] w w' := fun f x t hA hno => by
    by_cases h : t.length < 32
    · exact decode_short hv hA h
    · exact decode_odd hv hA (by omega) (fun hq => hno (by omega) hq)
  match l, hv, hn, key with
  | [], hv, hn, key => exact decode_bad hv ansNo_nil
  | m :: r, hv, hn, key =>
    by_cases m0 : m = 0
    · subst m0
      refine key _ _ _ ansYes_zero (fun h1 h2 => hn ?_)
      obtain ⟨sums, q1, q2, q3⟩ := chunks _ h2
      refine ⟨⟨false, [], r.take 32, sums⟩, ⟨by rw [List.length_take]; omega, q2⟩, ?_, ?_⟩
      · unfold Pf.well
        simp [q3]
      · simp only [Pf.enc, Pf.head, ← q1]
        simp
    · by_cases m1 : m = 1
      · subst m1
        match r, hv, hn, key with
        | [], hv, hn, key => exact decode_bad hv (ansNo_cut (by simp))
        | [x], hv, hn, key => exact decode_bad hv (ansNo_cut (by simp))
        | x :: y :: t, hv, hn, key =>
          obtain ⟨n, hnn⟩ : ∃ n, n = x.toNat + 256 * y.toNat := ⟨_, rfl⟩
          by_cases hb : 128 < n
          · exact decode_bad hv (ansNo_big (by omega))
          · by_cases hs : t.length < n
            · exact decode_bad hv (ansNo_short (by omega) (by omega))
            · refine key _ _ _ (ansYes_full hnn (by omega) (by omega)) (fun h1 h2 => hn ?_)
              obtain ⟨sums, q1, q2, q3⟩ := chunks _ h2
              have hl : (t.take n).length = n := by rw [List.length_take]; omega
              have hx := x.toNat_lt
              have hy0 : y = 0 := UInt8.toNat_inj.1 (show y.toNat = 0 by omega)
              have hxn : UInt8.ofNat n = x := UInt8.toNat_inj.1 (by rw [ofNat_toNat' (by omega)]; subst hy0; simpa using hnn)
              refine ⟨⟨true, t.take n, (t.drop n).take 32, sums⟩, ⟨by rw [List.length_take]; omega, q2⟩, ?_, ?_⟩
              · unfold Pf.well
                simp only [hl, q3]
                simp
                omega
              · simp only [Pf.enc, Pf.head, ← q1, hl, hxn, hy0]
                have e : (t.drop n).take 32 ++ (t.drop n).drop 32 = t.drop n := List.take_append_drop 32 _
                simp only [if_true, List.append_assoc, e, List.cons_append, List.nil_append, List.take_append_drop]
      · exact decode_bad hv (ansNo_other m0 m1)
end Go.Proofs.Ytnobhfpjchofpaa
