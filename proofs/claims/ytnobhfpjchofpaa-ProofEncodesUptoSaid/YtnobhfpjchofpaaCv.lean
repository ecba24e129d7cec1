/-
  The document's answer for layer 12: Decode, whatever the bytes.
-/
import Derived.Test.YtnobhfpjchofpaaCu
namespace Go.Proofs.Ytnobhfpjchofpaa
set_option linter.unusedVariables false
set_option linter.unusedSimpArgs false
open Go.RowKit

theorem chunksOf_of {sums : List (List UInt8)} (h : ∀ s ∈ sums, s.length = 32) : chunksOf sums.flatten sums.length = sums := by
  refine List.ext_getElem? fun i => ?_
  by_cases hi : i < sums.length
  · have e : sums.flatten = (sums.take i).flatten ++ (sums[i] ++ (sums.drop (i + 1)).flatten) := by
      rw [← List.flatten_cons, ← List.flatten_append]
      simp
    have hl : (sums.take i).flatten.length = 32 * i := by
      rw [flatten_length (fun s hs => h s (List.mem_of_mem_take hs)), List.length_take]
      congr 1
      omega
    have hq := h _ (List.getElem_mem hi)
    unfold chunksOf chunkAt
    rw [List.getElem?_map, List.getElem?_range hi, Option.map_some, List.getElem?_eq_getElem hi, e, List.drop_append_of_le_length (by omega), List.drop_of_length_le (by omega), List.nil_append, List.take_append_of_le_length (by omega), List.take_of_length_le (by omega)]
  · rw [List.getElem?_eq_none (by simp [chunksOf]; omega), List.getElem?_eq_none (by omega)]

/-- The document's Decode tells what Decode tells: of a proof's bytes that proof; of others none. -/
theorem refDecode_yes {w : World} {v : Value} {p : Pf} (hv : BytesAt w v p.enc) (ho : p.ok) (hw : p.well = true) (hlen : p.enc.length ≤ 2097152) :
    Calls Try.prog 25 #[v] w fun e w' => ∃ u, e = .returned (.tuple #[u, .int .i64 0]) ∧ PfIn w' u p ∧ Keeps [] w w' := by
  obtain ⟨f, val, bits, sums⟩ := p
  obtain ⟨hb, hd⟩ := ho
  simp only at hb hd
  obtain ⟨h1, h2, h3⟩ := Pf.well_parts hw
  simp only at h1 h2 h3
  have e1 : (bits ++ sums.flatten).take 32 = bits := by rw [List.take_append_of_le_length (by omega), List.take_of_length_le (by omega)]
  have e2 : (bits ++ sums.flatten).drop 32 = sums.flatten := by rw [List.drop_append_of_le_length (by omega), List.drop_of_length_le (by omega), List.nil_append]
  have hend : ∀ (e : Ending) (w' : World), REnd f val (bits ++ sums.flatten) w e w' → ∃ u, e = .returned (.tuple #[u, .int .i64 0]) ∧ PfIn w' u ⟨f, val, bits, sums⟩ ∧ Keeps [] w w' := fun e w' h => by
    unfold REnd at h
    rw [e1, e2, flatten_length hd, h3, if_pos rfl, ← h3, chunksOf_of hd] at h
    exact h
  cases f with
  | true =>
    have hn : (UInt8.ofNat val.length).toNat = val.length := ofNat_toNat' (by omega)
    have e : Pf.enc ⟨true, val, bits, sums⟩ = 1 :: UInt8.ofNat val.length :: 0 :: (val ++ (bits ++ sums.flatten)) := by simp [Pf.enc, Pf.head]
    have q1 : (val ++ (bits ++ sums.flatten)).take val.length = val := by rw [List.take_append_of_le_length (Nat.le_refl _), List.take_length]
    have q2 : (val ++ (bits ++ sums.flatten)).drop val.length = bits ++ sums.flatten := by rw [List.drop_append_of_le_length (Nat.le_refl _), List.drop_length, List.nil_append]
    have h := refdec_one_long hv e (n := val.length) (by rw [hn]; rfl) h2 (by rw [List.length_append]; omega) (by rw [q2, List.length_append]; omega) hlen
    rw [q1, q2] at h
    exact h.mono hend
  | false =>
    have hv0 : val = [] := h1.resolve_left (by simp)
    subst hv0
    have e : Pf.enc ⟨false, [], bits, sums⟩ = 0 :: (bits ++ sums.flatten) := by simp [Pf.enc, Pf.head]
    exact (refdec_zero_long hv e (by rw [List.length_append]; omega) hlen).mono hend

theorem refDecode_no {w : World} {v : Value} {l : List UInt8} (hv : BytesAt w v l) (hlen : l.length ≤ 2097152) (hn : ¬ ∃ p : Pf, p.ok ∧ p.well = true ∧ l = p.enc) :
    Calls Try.prog 25 #[v] w fun e w' => ∃ u, e = .returned (.tuple #[u, .int .i64 120]) ∧ PfIn w' u pf0 ∧ Keeps [] w w' := by
  match l, hv, hlen, hn with
  | [], hv, hlen, hn => exact refdec_nil hv rfl
  | m :: r, hv, hlen, hn =>
    by_cases m0 : m = 0
    · subst m0
      by_cases h : r.length < 32
      · exact refdec_zero_short hv rfl h
      · refine (refdec_zero_long hv rfl (by omega) hlen).mono fun e w' hE => ?_
        unfold REnd at hE
        by_cases hq : (r.drop 32).length = 32 * onesOf (r.take 32)
        · refine absurd ?_ hn
          obtain ⟨sums, q1, q2, q3⟩ := chunks _ hq
          refine ⟨⟨false, [], r.take 32, sums⟩, ⟨by rw [List.length_take]; omega, q2⟩, ?_, ?_⟩
          · unfold Pf.well
            simp [q3]
          · simp only [Pf.enc, Pf.head, ← q1]
            simp
        · rw [if_neg hq] at hE
          exact hE
    · by_cases m1 : m = 1
      · subst m1
        match r, hv, hlen, hn with
        | [], hv, hlen, hn => exact refdec_cut hv rfl (by simp)
        | [x], hv, hlen, hn => exact refdec_cut hv rfl (by simp)
        | x :: y :: t, hv, hlen, hn =>
          obtain ⟨n, hnn⟩ : ∃ n, n = x.toNat + 256 * y.toNat := ⟨_, rfl⟩
          by_cases hb : 128 < n
          · exact refdec_big hv rfl hnn hb
          · by_cases hs : t.length < n
            · exact refdec_short hv rfl hnn (by omega) hs
            · by_cases h32 : (t.drop n).length < 32
              · exact refdec_one_short hv rfl hnn (by omega) (by omega) h32
              · refine (refdec_one_long hv rfl hnn (by omega) (by omega) (by omega) hlen).mono fun e w' hE => ?_
                unfold REnd at hE
                by_cases hq : ((t.drop n).drop 32).length = 32 * onesOf ((t.drop n).take 32)
                · refine absurd ?_ hn
                  obtain ⟨sums, q1, q2, q3⟩ := chunks _ hq
                  have hl : (t.take n).length = n := by rw [List.length_take]; omega
                  have hx := x.toNat_lt
                  have hy0 : y = 0 := UInt8.toNat_inj.1 (show y.toNat = 0 by omega)
                  have hxn : UInt8.ofNat n = x := UInt8.toNat_inj.1 (by rw [ofNat_toNat' (by omega)]; subst hy0; simpa using hnn)
                  refine ⟨⟨true, t.take n, (t.drop n).take 32, sums⟩, ⟨by rw [List.length_take]; omega, q2⟩, ?_, ?_⟩
                  · unfold Pf.well
                    simp only [hl, q3]
                    simp
                    omega
                  · simp only [Pf.enc, Pf.head, ← q1, hl, hxn, hy0]
                    have e : (t.drop n).take 32 ++ (t.drop n).drop 32 = t.drop n := List.take_append_drop 32 _
                    simp only [if_true, List.append_assoc, e, List.cons_append, List.nil_append, List.take_append_drop]
                · rw [if_neg hq] at hE
                  exact hE
      · exact refdec_other hv rfl m0 m1
end Go.Proofs.Ytnobhfpjchofpaa
