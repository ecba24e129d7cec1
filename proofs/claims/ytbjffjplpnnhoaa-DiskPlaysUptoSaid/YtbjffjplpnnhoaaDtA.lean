/-
  The law's fate; bytes of one's own, read and stored.
-/
import Derived.Test.YtbjffjplpnnhoaaDwWhole
import Derived.Test.YtbjffjplpnnhoaaDpB
namespace Go.Proofs.Ytbjffjplpnnhoaa
set_option linter.unusedVariables false
set_option linter.unusedSimpArgs false
open Go.RowKit

theorem lFate_any {w : World} {v : Value} {l : List UInt8} (hv : BytesAt w v l) (k : Nat) (hk : k ≤ 9223372036854775807) :
    Calls Try.prog 26 #[v, .int .i64 k] w fun e w' => e = .returned (.int .u8 (l.getD k 0).toNat) ∧ Keeps [] w w' := by
  obtain ⟨a, c, rfl, hc, hm⟩ := hv.form
  unfold maxLen at hm
  by_cases hlt : k < l.length
  · obtain ⟨g, o, rfl, hg, hr⟩ : ∃ g o, a = some ⟨g, o, none⟩ ∧ g < w.heap.size ∧ w.rangeAt g o (l.map B) := by
      rcases hv with ⟨h0, _⟩ | ⟨g, o, cap, hv, _, _, h3, h4⟩
      · subst h0; simp at hlt
      · injection hv with e _ _
        exact ⟨g, o, e, h3, h4⟩
    obtain ⟨x, hx⟩ : ∃ x, x = l[k] := ⟨_, rfl⟩
    have e1 : w.cell? ⟨g, o + k, none⟩ = some (.int .u8 x.toNat) := by
      rw [hx]
      exact hr k _ (by simp [hlt, B])
    have e2 : l.getD k 0 = x := by rw [hx, List.getD_eq_getElem?_getD, List.getElem?_eq_getElem hlt]; rfl
    have b0 : (0 : Int) ≤ (k : Int) := by omega
    have b1 : (k : Int) < (l.length : Int) := by omega
    rw [e2]
    clear hx e2 hr hv
    go_enter Try.func26, Try.ntmps26
    go_wp2_with fail
    go_ret
    exact ⟨rfl, Keeps.refl _ _⟩
  · have e2 : l.getD k 0 = 0 := by rw [List.getD_eq_getElem?_getD, List.getElem?_eq_none (by omega)]; rfl
    rw [e2]
    have b1 : (l.length : Int) ≤ (k : Int) := by omega
    clear e2 hv
    go_enter Try.func26, Try.ntmps26
    go_wp2_with fail
    go_ret
    exact ⟨rfl, Keeps.refl _ _⟩
theorem read_thing {w : World} {b : Nat} {d : D} {F : List Nat} (h : DiskAt w b d F) (hd : d.dead = false) (page : Nat) (hp : page < d.n) :
    Calls Try.prog 25 #[.pointer (some ⟨b, 0, none⟩), .int .i64 page] w fun e w' => ∃ g cap, e = .returned (.tuple #[.slice (some ⟨g, 0, none⟩) 256 cap, .int .i64 0]) ∧ w.heap.size ≤ g ∧
      OwnB w' (.slice (some ⟨g, 0, none⟩) 256 cap) (d.read page) ∧ DiskAt w' b { d with reads := wrap64 (d.reads + 1) } F ∧ Keeps F w w' := by
  obtain ⟨bp, qv, bm, hI, rfl⟩ := h
  refine (dRead_ok page hI hd hp).mono ?_
  rintro e w' ⟨g, cap, rfl, hg, hO, hI', hk⟩
  exact ⟨g, cap, rfl, hg, hO, ⟨bp, qv, bm, hI', rfl⟩, hk.mono (by simp)⟩
theorem read_calm {d : D} (hq : d.q = []) (p : Nat) : d.read p = (d.img.drop (p * 256)).take 256 := by
  unfold D.read
  rw [hq]
  rfl
end Go.Proofs.Ytbjffjplpnnhoaa
