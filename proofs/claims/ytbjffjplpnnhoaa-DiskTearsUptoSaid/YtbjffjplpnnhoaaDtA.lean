/-
  The law's fate; bytes of one's own, read and stored.
-/
import Derived.Test.YtbjffjplpnnhoaaDwWhole
import Derived.Test.YtbjffjplpnnhoaaDpB
namespace Go.Proofs.Ytbjffjplpnnhoaa
open Go.RowKit

theorem OwnB.row {w : World} {g n cap : Nat} {l : List UInt8} (h : OwnB w (.slice (some ⟨g, 0, none⟩) n cap) l) :
    ∃ cur, w.heap[g]? = some (.cells cur 5 (0, 0)) ∧ n = l.length ∧ n ≤ cap ∧ cap ≤ maxLen ∧ cur.size = cap ∧ cur.toList.take n = l.map B := by
  rcases h.2 with ⟨h0, _⟩ | ⟨g', cap', cur, hv, _, hh, h1, h2, h3, h4⟩
  · cases h0
  · injection hv with e1 e2 e3
    injection e1 with e1
    injection e1 with e1 _
    subst e1 e2 e3
    exact ⟨cur, hh, rfl, h1, h2, by rw [h3, Nat.mul_one], by rw [← h4, Nat.mul_one]⟩
theorem OwnB.cell {w : World} {g n cap : Nat} {l : List UInt8} (h : OwnB w (.slice (some ⟨g, 0, none⟩) n cap) l) (i : Nat) (hi : i < l.length) : w.cell? ⟨g, i, none⟩ = some (B l[i]) := by
  obtain ⟨cur, hh, hn, _, _, _, ht⟩ := h.row
  rw [cell_of_row w g i _ _ _ hh]
  have : (l.map B)[i]? = some (B l[i]) := by rw [List.getElem?_map, List.getElem?_eq_getElem hi]; rfl
  rw [← ht, List.getElem?_take] at this
  split at this
  · simpa using this
  · cases this
theorem OwnB.free {w : World} {g n cap : Nat} {l : List UInt8} (h : OwnB w (.slice (some ⟨g, 0, none⟩) n cap) l) (i : Nat) : w.frozen? ⟨g, i, none⟩ = false := by
  obtain ⟨cur, hh, _⟩ := h.row
  exact frozen_of_row w g i _ _ hh
theorem OwnB.set {w : World} {g n cap : Nat} {l : List UInt8} (h : OwnB w (.slice (some ⟨g, 0, none⟩) n cap) l) (i : Nat) (hi : i < l.length) (x : UInt8) : OwnB (w.setCell ⟨g, i, none⟩ (B x)) (.slice (some ⟨g, 0, none⟩) n cap) (l.set i x) := by
  obtain ⟨cur, hh, hn, h1, h2, h3, ht⟩ := h.row
  refine ⟨by simp, .inr ⟨g, cap, cur.setIfInBounds i (B x), by rw [List.length_set, hn], Nat.zero_le _, heap_setCell_same w g i _ _ _ hh, by rw [List.length_set]; omega, h2, by rw [Array.size_setIfInBounds, h3, Nat.mul_one], ?_⟩⟩
  rw [Nat.mul_one, List.length_set, Array.toList_setIfInBounds, List.map_set, ← ht, ← hn, List.take_set]

theorem lFate_any {w : World} {v : Value} {l : List UInt8} (hv : BytesAt w v l) (k : Nat) (hk : k ≤ 9223372036854775807) :
    Calls Try.prog 26 #[v, .int .i64 k] w fun e w' => e = .returned (.int .u8 (l.getD k 0).toNat) ∧ Keeps [] w w' := by
  obtain ⟨a, c, rfl, hc, hm⟩ := hv.form
  unfold maxLen at hm
  by_cases hlt : k < l.length
  · obtain ⟨g, o, rfl, hg, hr⟩ : ∃ g o, a = some ⟨g, o, none⟩ ∧ g < w.heap.size ∧ w.rangeAt g o (l.map B) := by
      rcases hv with ⟨h0, _⟩ | ⟨g, o, cap, hv, _, _, h3, h4⟩
      · subst h0; simp at hlt
      · injection hv with e _ _
        exact ⟨g, o, e, h3, h4⟩
    obtain ⟨x, hx⟩ : ∃ x, x = l[k] := ⟨_, rfl⟩
    have e1 : w.cell? ⟨g, o + k, none⟩ = some (.int .u8 x.toNat) := by
      rw [hx]
      exact hr k _ (by simp [hlt, B])
    have e2 : l.getD k 0 = x := by rw [hx, List.getD_eq_getElem?_getD, List.getElem?_eq_getElem hlt]; rfl
    have b0 : (0 : Int) ≤ (k : Int) := by omega
    have b1 : (k : Int) < (l.length : Int) := by omega
    rw [e2]
    clear hx e2 hr hv
    go_enter Try.func26, Try.ntmps26
    go_wp2_with fail
    go_ret
    exact ⟨rfl, Keeps.refl _ _⟩
  · have e2 : l.getD k 0 = 0 := by rw [List.getD_eq_getElem?_getD, List.getElem?_eq_none (by omega)]; rfl
    rw [e2]
    have b1 : (l.length : Int) ≤ (k : Int) := by omega
    clear e2 hv
    go_enter Try.func26, Try.ntmps26
    go_wp2_with fail
    go_ret
    exact ⟨rfl, Keeps.refl _ _⟩
theorem OwnB.part {w : World} {g n cap : Nat} {l : List UInt8} (h : OwnB w (.slice (some ⟨g, 0, none⟩) n cap) l) (k : Nat) (hk : k * 256 + 256 ≤ l.length) (c : Nat) (hc : 256 ≤ c) (hm : c ≤ maxLen) :
    BytesAt w (.slice (some ⟨g, k * 256, none⟩) 256 c) ((l.drop (k * 256)).take 256) := by
  have hl : ((l.drop (k * 256)).take 256).length = 256 := by rw [List.length_take, List.length_drop]; omega
  obtain ⟨cur, hh, _⟩ := h.row
  refine .inr ⟨g, k * 256, c, by rw [hl], by omega, hm, lt_of_heap hh, fun j u hj => ?_⟩
  have hjl : j < 256 := by
    have := (List.getElem?_eq_some_iff.1 hj).1
    rw [List.length_map] at this
    omega
  have hx : k * 256 + j < l.length := by omega
  rw [List.getElem?_map, List.getElem?_take_of_lt hjl, List.getElem?_drop, List.getElem?_eq_getElem hx] at hj
  rw [h.cell _ hx]
  exact hj
theorem read_thing {w : World} {b : Nat} {d : D} {F : List Nat} (h : DiskAt w b d F) (hd : d.dead = false) (page : Nat) (hp : page < d.n) :
    Calls Try.prog 25 #[.pointer (some ⟨b, 0, none⟩), .int .i64 page] w fun e w' => ∃ g cap, e = .returned (.tuple #[.slice (some ⟨g, 0, none⟩) 256 cap, .int .i64 0]) ∧ w.heap.size ≤ g ∧
      OwnB w' (.slice (some ⟨g, 0, none⟩) 256 cap) (d.read page) ∧ DiskAt w' b { d with reads := wrap64 (d.reads + 1) } F ∧ Keeps F w w' := by
  obtain ⟨bp, qv, bm, hI, rfl⟩ := h
  refine (dRead_ok page hI hd hp).mono ?_
  rintro e w' ⟨g, cap, rfl, hg, hO, hI', hk⟩
  exact ⟨g, cap, rfl, hg, hO, ⟨bp, qv, bm, hI', rfl⟩, hk.mono (by simp)⟩
theorem read_calm {d : D} (hq : d.q = []) (p : Nat) : d.read p = (d.img.drop (p * 256)).take 256 := by
  unfold D.read
  rw [hq]
  rfl
end Go.Proofs.Ytbjffjplpnnhoaa
