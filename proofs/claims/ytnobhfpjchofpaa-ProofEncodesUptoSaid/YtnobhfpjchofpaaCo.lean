/-
  Plain: no proof's bytes are another's with bytes behind; none begins with another byte than 0 or 1.
-/
import Derived.Test.YtnobhfpjchofpaaCm
namespace Go.Proofs.Ytnobhfpjchofpaa
set_option linter.unusedVariables false
set_option linter.unusedSimpArgs false
open Go.RowKit

theorem Pf.well_parts {p : Pf} (h : p.well = true) : (p.found = true ∨ p.val = []) ∧ p.val.length ≤ 128 ∧ p.sums.length = onesOf p.bits := by
  unfold Pf.well at h
  simp only [Bool.and_eq_true, Bool.or_eq_true, beq_iff_eq, decide_eq_true_eq] at h
  exact ⟨h.1.1.imp id List.eq_nil_of_length_eq_zero, h.1.2, h.2⟩
theorem Pf.enc_len {p : Pf} (ho : p.ok) (hw : p.well = true) : p.enc.length = p.head.length + 32 + 32 * onesOf p.bits := by
  obtain ⟨_, _, h3⟩ := Pf.well_parts hw
  unfold Pf.enc
  rw [List.length_append, List.length_append, ho.1, flatten_length ho.2, h3]
theorem Pf.enc_cons (p : Pf) : ∃ m r, p.enc = m :: r ∧ (m = 0 ∨ m = 1) := by
  unfold Pf.enc Pf.head
  cases p.found
  · exact ⟨0, _, rfl, .inl rfl⟩
  · exact ⟨1, _, rfl, .inr rfl⟩
theorem ofNat_inj {a b : Nat} (ha : a < 256) (hb : b < 256) (h : UInt8.ofNat a = UInt8.ofNat b) : a = b := by
  have := congrArg UInt8.toNat h
  rwa [ofNat_toNat' ha, ofNat_toNat' hb] at this
theorem enc_free {p q : Pf} (hp : p.ok) (hpw : p.well = true) (hq : q.ok) (hqw : q.well = true) {t : List UInt8} (h : q.enc = p.enc ++ t) : t = [] := by
  obtain ⟨p1, p2, p3⟩ := Pf.well_parts hpw
  obtain ⟨q1, q2, q3⟩ := Pf.well_parts hqw
  have hl := congrArg List.length h
  rw [List.length_append, Pf.enc_len hp hpw, Pf.enc_len hq hqw] at hl
  have key : q.head.length = p.head.length ∧ q.bits = p.bits := by
    have hf : q.found = p.found := by
      unfold Pf.enc Pf.head at h
      cases hqf : q.found <;> cases hpf : p.found <;> rw [hqf, hpf] at h <;> simp at h ⊢
    have hh : q.head.length = p.head.length := by
      unfold Pf.head
      rw [hf]
      cases hpf : p.found with
      | false => rfl
      | true =>
        have hqf := hf.trans hpf
        unfold Pf.enc Pf.head at h
        rw [hqf, hpf] at h
        simp only [if_true, List.cons_append, List.nil_append, List.cons.injEq, true_and] at h
        have := ofNat_inj (by omega) (by omega) h.1
        simp [this]
    refine ⟨hh, ?_⟩
    have e1 : (q.enc.drop q.head.length).take 32 = q.bits := by
      unfold Pf.enc
      rw [List.append_assoc, List.drop_append_of_le_length (Nat.le_refl _), List.drop_length, List.nil_append, List.take_append_of_le_length (by rw [hq.1]; exact Nat.le_refl _), List.take_of_length_le (by rw [hq.1]; exact Nat.le_refl _)]
    have e2 : ((p.enc ++ t).drop p.head.length).take 32 = p.bits := by
      unfold Pf.enc
      rw [List.append_assoc, List.append_assoc, List.drop_append_of_le_length (Nat.le_refl _), List.drop_length, List.nil_append, List.take_append_of_le_length (by rw [hp.1]; exact Nat.le_refl _), List.take_of_length_le (by rw [hp.1]; exact Nat.le_refl _)]
    rw [← e1, ← e2, h, hh]
  rw [key.1, key.2] at hl
  exact List.eq_nil_of_length_eq_zero (by omega)
theorem cut_no {p : Pf} (hp : p.ok) (hw : p.well = true) {n : Nat} (hn : n < p.enc.length) : ¬ ∃ q : Pf, q.ok ∧ q.well = true ∧ p.enc.take n = q.enc := by
  rintro ⟨q, h1, h2, h3⟩
  have h := enc_free h1 h2 hp hw (t := p.enc.drop n) (by rw [← h3, List.take_append_drop])
  have := congrArg List.length h
  rw [List.length_drop, List.length_nil] at this
  omega
theorem long_no {p : Pf} (hp : p.ok) (hw : p.well = true) {t : List UInt8} (ht : t ≠ []) : ¬ ∃ q : Pf, q.ok ∧ q.well = true ∧ p.enc ++ t = q.enc := by
  rintro ⟨q, h1, h2, h3⟩
  exact ht (enc_free hp hw h1 h2 h3.symm)
theorem first_no {m : UInt8} {r : List UInt8} (h0 : m ≠ 0) (h1 : m ≠ 1) : ¬ ∃ q : Pf, q.ok ∧ q.well = true ∧ m :: r = q.enc := by
  rintro ⟨q, _, _, h⟩
  obtain ⟨m', r', h2, h3⟩ := Pf.enc_cons q
  rw [h2] at h
  injection h with h _
  subst h
  exact h3.elim h0 h1
/-- Decode of whatever bytes. -/
theorem decode_any {w : World} {v : Value} {l : List UInt8} (hv : BytesAt w v l) :
    Calls Try.prog 13 #[v] w fun e w' => ∃ u n, e = .returned (.tuple #[u, .int .i64 n]) ∧ (∃ p, PfIn w' u p) ∧ Keeps [] w w' := by
  by_cases h : ∃ q : Pf, q.ok ∧ q.well = true ∧ l = q.enc
  · obtain ⟨q, h1, h2, rfl⟩ := h
    exact (decode_yes hv h1 h2).mono fun e w' ⟨u, a, b, c⟩ => ⟨u, 0, a, ⟨_, b⟩, c⟩
  · exact (decode_no hv h).mono fun e w' ⟨u, a, b, c⟩ => ⟨u, 120, a, ⟨_, b⟩, c⟩
theorem bytes_front2 {w : World} {a : Option Addr} {cap n : Nat} {l : List UInt8} (h : BytesAt w (.slice a l.length cap) l) (hn : n ≤ l.length) : BytesAt w (.slice a n cap) (l.take n) := by
  have hl : (l.take n).length = n := by rw [List.length_take]; omega
  rcases h with ⟨rfl, a', c', hv, hc⟩ | ⟨g, o, c', hv, h1, h2, h3, h4⟩
  · simp at hn
    subst hn
    injection hv with _ _ e3
    subst e3
    exact .inl ⟨rfl, _, _, rfl, hc⟩
  · injection hv with e _ e3
    subst e e3
    refine .inr ⟨g, o, cap, by rw [hl], by omega, h2, h3, fun j u hu => h4 j u ?_⟩
    rw [List.getElem?_map, List.getElem?_take] at hu
    split at hu
    · rwa [List.getElem?_map]
    · simp at hu
end Go.Proofs.Ytnobhfpjchofpaa
