/-
  Package proof: the reader as a list of bytes; its answer.
-/
import Derived.Test.YtnobhfpjchofpaaCi
namespace Go.Proofs.Ytnobhfpjchofpaa
set_option linter.unusedVariables false
set_option linter.unusedSimpArgs false
open Go.RowKit

/-- A reader with the bytes l left, that lie in blocks below N. -/
def Rd (w : World) (rb N : Nat) (l : List UInt8) (sh : Bool) : Prop :=
  ∃ a c, RdAt w rb (.slice a l.length c) sh ∧ BytesAt w (.slice a l.length c) l ∧ (∀ k, (Value.slice a l.length c).elemBlock = some k → k < N) ∧ c ≤ maxLen
theorem Rd.keeps {w w' : World} {rb N : Nat} {l : List UInt8} {sh : Bool} (h : Rd w rb N l sh) {F : List Nat} (hk : Keeps F w w') (hb : rb ∉ F) (hF : ∀ k ∈ F, N ≤ k) : Rd w' rb N l sh := by
  obtain ⟨a, c, h1, h2, h3, h4⟩ := h
  exact ⟨a, c, (hk.block _ (lt_of_heap h1) hb).trans h1, h2.keeps hk (fun k hk' hm => by have := h3 k hk'; have := hF k hm; omega), h3, h4⟩
theorem Rd.sh {w : World} {rb N : Nat} {l : List UInt8} {sh : Bool} (h : Rd w rb N l sh) : w.cell? ⟨rb, 1, none⟩ = some (.bool sh) := by obtain ⟨a, c, h1, _⟩ := h; exact h1.facts.2.1
theorem Rd.lt {w : World} {rb N : Nat} {l : List UInt8} {sh : Bool} (h : Rd w rb N l sh) : rb < w.heap.size := by obtain ⟨a, c, h1, _⟩ := h; exact lt_of_heap h1

theorem take_no {w : World} {rb N : Nat} {l : List UInt8} {sh : Bool} (hr : Rd w rb N l sh) (n : Nat) (hn : l.length < n) (h63 : n ≤ 9223372036854775807) :
    Calls Try.prog 23 #[.pointer (some ⟨rb, 0, none⟩), .int .i64 n] w fun e w' => e = .returned (.slice none 0 0) ∧ Rd w' rb N [] true ∧ Keeps [rb] w w' := by
  obtain ⟨a, c, h1, h2, h3, h4⟩ := hr
  refine (take_short h1 n hn h63).mono ?_
  rintro e w' ⟨rfl, hR, hk⟩
  exact ⟨rfl, ⟨none, 0, hR, BytesAt_nil _, by simp [Value.elemBlock], by simp [maxLen]⟩, hk⟩
theorem take_yes {w : World} {rb N : Nat} {l : List UInt8} {sh : Bool} (hr : Rd w rb N l sh) (n : Nat) (hn : n ≤ l.length) (hN : N ≤ rb) :
    Calls Try.prog 23 #[.pointer (some ⟨rb, 0, none⟩), .int .i64 n] w fun e w' => ∃ a, e = .returned (.slice a n n) ∧ BytesAt w' (.slice a n n) (l.take n) ∧ (∀ k, (Value.slice a n n).elemBlock = some k → k < N) ∧ Rd w' rb N (l.drop n) sh ∧ Keeps [rb] w w' ∧ (0 < l.length → ∃ x, a = some x) := by
  obtain ⟨a, c, h1, h2, h3, h4⟩ := hr
  refine (take_ok h1 h2 n hn).mono ?_
  rintro e w' ⟨rfl, hR, hk⟩
  have hfar : ∀ k, (Value.slice a l.length c).elemBlock = some k → k ∉ [rb] := fun k hk' => by have := h3 k hk'; simp; omega
  have hb := bytes_back h2 hn h4
  have hbf : ∀ k, (sliced a n l.length c 1).elemBlock = some k → k < N := fun k hk' => h3 k (back_block hk')
  obtain ⟨a2, c2, e2, e3, e4⟩ := hb.form
  have hb' := hb.keeps hk (fun k hk' => hfar k (back_block hk'))
  rw [e2] at hR hb' hbf
  refine ⟨a, rfl, (bytes_front h2 hn).keeps hk (fun k hk' => hfar k (front_block hn hk')), fun k hk' => h3 k (front_block hn hk'), ⟨a2, c2, hR, hb', hbf, e4⟩, hk, fun h0 => ?_⟩
  obtain ⟨g, o, rfl, _⟩ := h2.at h0
  exact ⟨_, rfl⟩
theorem number_no {w : World} {rb N : Nat} {l : List UInt8} {sh : Bool} (hr : Rd w rb N l sh) (hn : l.length < 2) :
    Calls Try.prog 27 #[.pointer (some ⟨rb, 0, none⟩)] w fun e w' => e = .returned (.int .i64 0) ∧ Rd w' rb N [] true ∧ Keeps [rb] w w' := by
  obtain ⟨a, c, h1, h2, h3, h4⟩ := hr
  refine (number_short h1 hn).mono ?_
  rintro e w' ⟨rfl, hR, hk⟩
  exact ⟨rfl, ⟨none, 0, hR, BytesAt_nil _, by simp [Value.elemBlock], by simp [maxLen]⟩, hk⟩
theorem number_yes {w : World} {rb N : Nat} {l : List UInt8} {sh : Bool} (hr : Rd w rb N l sh) (hN : N ≤ rb) {x y : UInt8} {t : List UInt8} (hx : l = x :: y :: t) {m : Nat} (hm : m = x.toNat + 256 * y.toNat) :
    Calls Try.prog 27 #[.pointer (some ⟨rb, 0, none⟩)] w fun e w' => e = .returned (.int .i64 m) ∧ Rd w' rb N t sh ∧ Keeps [rb] w w' := by
  subst hm
  obtain ⟨a, c, h1, h2, h3, h4⟩ := hr
  refine (number_ok h1 h2 (fun k hk => by have := h3 k hk; omega) x y t hx).mono ?_
  rintro e w' ⟨rfl, hR, hk⟩
  have hn : 2 ≤ l.length := by rw [hx]; simp
  have hfar : ∀ k, (Value.slice a l.length c).elemBlock = some k → k ∉ [rb] := fun k hk' => by have := h3 k hk'; simp; omega
  have hb := bytes_back h2 hn h4
  have hbf : ∀ k, (sliced a 2 l.length c 1).elemBlock = some k → k < N := fun k hk' => h3 k (back_block hk')
  obtain ⟨a2, c2, e2, e3, e4⟩ := hb.form
  have hb' := hb.keeps hk (fun k hk' => hfar k (back_block hk'))
  rw [e2] at hR hb' hbf
  have ht : l.drop 2 = t := by rw [hx]; rfl
  rw [ht] at hR hb' hbf
  exact ⟨rfl, ⟨a2, c2, hR, hb', hbf, e4⟩, hk⟩
end Go.Proofs.Ytnobhfpjchofpaa
