/-
  Package proof: the reader's answer, a theorem a way.
-/
import Derived.Test.YtnobhfpjchofpaaCj
import Derived.Test.YtnobhfpjchofpaaCe
namespace Go.Proofs.Ytnobhfpjchofpaa
set_option linter.unusedVariables false
set_option linter.unusedSimpArgs false
open Go.RowKit

theorem pf_set0 (p : Pf) (vv sv : Value) (b : Bool) : (pfCells p vv sv).toArray.setIfInBounds 0 (.bool b) = (pfCells ⟨b, p.val, p.bits, p.sums⟩ vv sv).toArray := by
  rw [List.setIfInBounds_toArray]; rfl
theorem pf_set1 (p : Pf) (vv sv vv2 : Value) (l : List UInt8) : (pfCells p vv sv).toArray.setIfInBounds 1 vv2 = (pfCells ⟨p.found, l, p.bits, p.sums⟩ vv2 sv).toArray := by
  rw [List.setIfInBounds_toArray]; rfl
/-- The first byte of a piece. -/
theorem first_cell {w : World} {a : Option Addr} {n c : Nat} {l t : List UInt8} {m : UInt8} (h : BytesAt w (.slice a n c) l) (hl : l = m :: t) : ∃ g o, a = some ⟨g, o, none⟩ ∧ w.cell? ⟨g, o, none⟩ = some (.int .u8 m.toNat) := by
  obtain ⟨g, o, e, hg, hr⟩ := h.at (by rw [hl]; simp)
  refine ⟨g, o, e, ?_⟩
  have := hr 0 (.int .u8 m.toNat) (by rw [hl]; rfl)
  simpa using this
def zero32 : List UInt8 := List.replicate 32 0

set_option maxRecDepth 100000 in
set_option maxHeartbeats 1600000 in
theorem ans_nil {w : World} {rb pb N : Nat} (hr : Rd w rb N [] false) (hN : N ≤ rb) (hN2 : N ≤ pb) (hne : pb ≠ rb) (hp : w.heap[pb]? = some (.cells (pfCells ⟨false, [], zero32, []⟩ (.slice none 0 0) (.slice none 0 0)).toArray 30 (0, 0))) :
    Calls Try.prog 22 #[.pointer (some ⟨rb, 0, none⟩), .pointer (some ⟨pb, 0, none⟩)] w fun e w' => e = .returned (.bool false) ∧ Keeps [rb, pb] w w' := by
  have cT := Lib.hid (take_no hr 1 (by simp) (by omega))
  clear hr hp
  go_enter Try.func22, Try.ntmps22
  go_wp2_with fail
  refine cT.out.mono ?_
  rintro e w1 ⟨rfl, hR, hk1⟩
  have HR := Lib.hid hR
  have hnil := run_eq_nil_none w1
  clear hR
  go_wp2_with fail
  go_ret
  exact ⟨rfl, hk1.mono (fun j hj => .inl (by simp at hj; simp [hj]))⟩
set_option maxRecDepth 100000 in
set_option maxHeartbeats 1600000 in
theorem ans_zero {w : World} {rb pb N : Nat} {r : List UInt8} (hr : Rd w rb N (0 :: r) false) (hN : N ≤ rb) (hN2 : N ≤ pb) (hne : pb ≠ rb) (hp : w.heap[pb]? = some (.cells (pfCells ⟨false, [], zero32, []⟩ (.slice none 0 0) (.slice none 0 0)).toArray 30 (0, 0))) :
    Calls Try.prog 22 #[.pointer (some ⟨rb, 0, none⟩), .pointer (some ⟨pb, 0, none⟩)] w fun e w' => e = .returned (.bool true) ∧ Rd w' rb N r false ∧ w'.heap[pb]? = some (.cells (pfCells ⟨false, [], zero32, []⟩ (.slice none 0 0) (.slice none 0 0)).toArray 30 (0, 0)) ∧ Keeps [rb, pb] w w' := by
  have cT := Lib.hid (take_yes hr 1 (by simp) hN)
  have hk0 := lt_of_heap hp
  have HP := Lib.hid hp
  clear hr hp
  go_enter Try.func22, Try.ntmps22
  go_wp2_with fail
  refine cT.out.mono ?_
  rintro e w1 ⟨a, rfl, hB, _, hR, hk1, _⟩
  obtain ⟨g, o, rfl, hc⟩ := first_cell hB rfl
  have HR := Lib.hid hR
  have hnil := run_eq_nil_some w1 ⟨g, o, none⟩ 1 1
  have hp1 := (hk1.block _ hk0 (by simp; omega)).trans HP.out
  have HP1 := Lib.hid hp1
  clear hR hB hp1
  have hc0 : w1.cell? ⟨g, o, none⟩ = some (.int .u8 0) := hc
  clear hc
  go_wp2_with fail
  go_ret
  exact ⟨rfl, HR.out, HP1.out, hk1.mono (fun j hj => .inl (by simp at hj; simp [hj]))⟩
set_option maxRecDepth 100000 in
set_option maxHeartbeats 1600000 in
theorem ans_other {w : World} {rb pb N : Nat} {m : UInt8} {r : List UInt8} (hr : Rd w rb N (m :: r) false) (hm0 : m ≠ 0) (hm1 : m ≠ 1) (hN : N ≤ rb) (hN2 : N ≤ pb) (hne : pb ≠ rb) (hp : w.heap[pb]? = some (.cells (pfCells ⟨false, [], zero32, []⟩ (.slice none 0 0) (.slice none 0 0)).toArray 30 (0, 0))) :
    Calls Try.prog 22 #[.pointer (some ⟨rb, 0, none⟩), .pointer (some ⟨pb, 0, none⟩)] w fun e w' => e = .returned (.bool false) ∧ Keeps [rb, pb] w w' := by
  have hq0 : m.toNat ≠ 0 := fun e => hm0 (UInt8.toNat_inj.1 e)
  have hq1 : m.toNat ≠ 1 := fun e => hm1 (UInt8.toNat_inj.1 e)
  have g1 : ((m.toNat : Int) != 1) = true := by simp; omega
  have cT := Lib.hid (take_yes hr 1 (by simp) hN)
  have hk0 := lt_of_heap hp
  have HP := Lib.hid hp
  have g0 : ((m.toNat : Int) == 0) = false := by simp; omega
  clear hr hp
  go_enter Try.func22, Try.ntmps22
  go_wp2_with fail
  refine cT.out.mono ?_
  rintro e w1 ⟨a, rfl, hB, _, hR, hk1, _⟩
  obtain ⟨g, o, rfl, hc⟩ := first_cell hB rfl
  have HR := Lib.hid hR
  have hnil := run_eq_nil_some w1 ⟨g, o, none⟩ 1 1
  have hp1 := (hk1.block _ hk0 (by simp; omega)).trans HP.out
  have HP1 := Lib.hid hp1
  clear hR hB hp1
  go_wp2_with fail
  go_ret
  exact ⟨rfl, hk1.mono (fun j hj => .inl (by simp at hj; simp [hj]))⟩
set_option maxRecDepth 100000 in
set_option maxHeartbeats 1600000 in
theorem ans_cut {w : World} {rb pb N : Nat} {r : List UInt8} (hr : Rd w rb N (1 :: r) false) (hl : r.length < 2) (hN : N ≤ rb) (hN2 : N ≤ pb) (hne : pb ≠ rb) (hp : w.heap[pb]? = some (.cells (pfCells ⟨false, [], zero32, []⟩ (.slice none 0 0) (.slice none 0 0)).toArray 30 (0, 0))) :
    Calls Try.prog 22 #[.pointer (some ⟨rb, 0, none⟩), .pointer (some ⟨pb, 0, none⟩)] w fun e w' => e = .returned (.bool false) ∧ Keeps [rb, pb] w w' := by
  have cT := Lib.hid (take_yes hr 1 (by simp) hN)
  have hk0 := lt_of_heap hp
  have HP := Lib.hid hp
  clear hr hp
  go_enter Try.func22, Try.ntmps22
  go_wp2_with fail
  refine cT.out.mono ?_
  rintro e w1 ⟨a, rfl, hB, _, hR, hk1, _⟩
  obtain ⟨g, o, rfl, hc⟩ := first_cell hB rfl
  have HR := Lib.hid hR
  have hnil := run_eq_nil_some w1 ⟨g, o, none⟩ 1 1
  have hp1 := (hk1.block _ hk0 (by simp; omega)).trans HP.out
  have HP1 := Lib.hid hp1
  clear hR hB hp1
  have hc0 : w1.cell? ⟨g, o, none⟩ = some (.int .u8 1) := hc
  clear hc
  go_wp2_with fail
  refine (number_no HR.out hl).mono ?_
  rintro e w2 ⟨rfl, hR2, hk2⟩
  have K2 : Keeps [rb, pb] w w2 := (hk1.mono (fun j hj => .inl (by simp at hj; simp [hj]))).trans (G := [rb]) hk2 (by simp)
  have HR2 := Lib.hid hR2
  have hp2 := (hk2.block _ (lt_of_heap HP1.out) (by simp; omega)).trans HP1.out
  have fp := frozen_of_row w2 pb 0 _ _ hp2
  have fp1 := frozen_of_row w2 pb 1 _ _ hp2
  obtain ⟨e0, e1, _⟩ := pf_cells hp2 (by simp [zero32])
  have hlp := lt_of_heap hp2
  have HP2 := Lib.hid hp2
  clear hR2 hp2
  go_wp2_with fail
  have hks : Keeps [pb] w2 (w2.setCell ⟨pb, 0, none⟩ (.bool true)) := (Keeps.refl _ _).setCell (.inl (by simp)) _
  have K2s := K2.trans (G := [pb]) hks (by simp)
  have cT3 := Lib.hid (take_yes (HR2.out.keeps hks (by simp; omega) (by simp; omega)) 0 (by simp) hN)
  refine cT3.out.mono ?_
  rintro e w3 ⟨a3, rfl, hB3, _, hR3, hk3, _⟩
  have K3 := K2s.trans (G := [rb]) hk3 (by simp)
  have hs3 := hR3.sh
  have HR3 := Lib.hid hR3
  have HB3 := Lib.hid hB3
  have hw3 : w3.heap[pb]? = some (.cells (pfCells ⟨true, [], zero32, []⟩ (.slice none 0 0) (.slice none 0 0)).toArray 30 (0, 0)) := by
    rw [hk3.block pb (by simpa using hlp) (by simp; omega)]
    have h := heap_setCell_same w2 pb 0 _ _ (.bool true) HP2.out
    rw [pf_set0] at h
    exact h
  have hlp3 := lt_of_heap hw3
  have HW3 := Lib.hid hw3
  clear hR3 hB3 hw3 e0 e1 fp fp1
  go_wp2_with (refine wpList_append_bytes rfl (.const (.slice none 0 0)) (.tmp 32) rfl w3.heap.size _ 0 [] (by rfl) (World.ownsRow_nil _ _ _ _) _ [] (by rfl) HB3.out (by simp; try omega) (Nat.le_refl _) ?_)
  intro v4 w4 ho4 hg4
  have hk4 : Keeps [] w3 w4 := (Keeps.refl _ _).grown hg4 (by simp [Value.ownBlock])
  have K4 := K3.trans (G := []) hk4 (by simp)
  have hp4 := (hk4.block _ hlp3 (by simp)).trans HW3.out
  have f4 := frozen_of_row w4 pb 1 _ _ hp4
  obtain ⟨_, e41, _⟩ := pf_cells hp4 (by simp [zero32])
  have hR4 := HR3.out.keeps hk4 (by simp) (by simp)
  have hs4 := hR4.sh
  obtain ⟨a4, c4, rfl⟩ := owns_slice ho4
  have hlp4 := lt_of_heap hp4
  have hlr4 := hR4.lt
  have HP4 := Lib.hid hp4
  have HR4 := Lib.hid hR4
  have HO4 := Lib.hid ho4
  clear hp4 hR4 hs3 ho4 hg4
  go_wp2_with fail
  go_ret
  exact ⟨rfl, K4.setCell (.inl (by simp)) _⟩
set_option maxRecDepth 100000 in
set_option maxHeartbeats 1600000 in
theorem ans_big {w : World} {rb pb N : Nat} {x y : UInt8} {t : List UInt8} (hr : Rd w rb N (1 :: x :: y :: t) false) {n : Nat} (hm : n = x.toNat + 256 * y.toNat) (hb : 128 < n) (hN : N ≤ rb) (hN2 : N ≤ pb) (hne : pb ≠ rb) (hp : w.heap[pb]? = some (.cells (pfCells ⟨false, [], zero32, []⟩ (.slice none 0 0) (.slice none 0 0)).toArray 30 (0, 0))) :
    Calls Try.prog 22 #[.pointer (some ⟨rb, 0, none⟩), .pointer (some ⟨pb, 0, none⟩)] w fun e w' => e = .returned (.bool false) ∧ Keeps [rb, pb] w w' := by
  have HM := Lib.hid hm
  clear hm
  have g5 : (128 : Int) < (n : Int) := by omega
  have cT := Lib.hid (take_yes hr 1 (by simp) hN)
  have hk0 := lt_of_heap hp
  have HP := Lib.hid hp
  clear hr hp
  go_enter Try.func22, Try.ntmps22
  go_wp2_with fail
  refine cT.out.mono ?_
  rintro e w1 ⟨a, rfl, hB, _, hR, hk1, _⟩
  obtain ⟨g, o, rfl, hc⟩ := first_cell hB rfl
  have HR := Lib.hid hR
  have hnil := run_eq_nil_some w1 ⟨g, o, none⟩ 1 1
  have hp1 := (hk1.block _ hk0 (by simp; omega)).trans HP.out
  have HP1 := Lib.hid hp1
  clear hR hB hp1
  have hc0 : w1.cell? ⟨g, o, none⟩ = some (.int .u8 1) := hc
  clear hc
  go_wp2_with fail
  refine (number_yes HR.out hN rfl HM.out).mono ?_
  rintro e w2 ⟨rfl, hR2, hk2⟩
  have K2 : Keeps [rb, pb] w w2 := (hk1.mono (fun j hj => .inl (by simp at hj; simp [hj]))).trans (G := [rb]) hk2 (by simp)
  clear hR2
  go_wp2_with fail
  go_ret
  exact ⟨rfl, K2⟩
set_option maxRecDepth 100000 in
set_option maxHeartbeats 1600000 in
theorem ans_short {w : World} {rb pb N : Nat} {x y : UInt8} {t : List UInt8} (hr : Rd w rb N (1 :: x :: y :: t) false) {n : Nat} (hm : n = x.toNat + 256 * y.toNat) (hb : n ≤ 128) (hl : t.length < n) (hN : N ≤ rb) (hN2 : N ≤ pb) (hne : pb ≠ rb) (hp : w.heap[pb]? = some (.cells (pfCells ⟨false, [], zero32, []⟩ (.slice none 0 0) (.slice none 0 0)).toArray 30 (0, 0))) :
    Calls Try.prog 22 #[.pointer (some ⟨rb, 0, none⟩), .pointer (some ⟨pb, 0, none⟩)] w fun e w' => e = .returned (.bool false) ∧ Keeps [rb, pb] w w' := by
  have HM := Lib.hid hm
  clear hm
  have g5 : ¬ (128 : Int) < (n : Int) := by omega
  have cT := Lib.hid (take_yes hr 1 (by simp) hN)
  have hk0 := lt_of_heap hp
  have HP := Lib.hid hp
  clear hr hp
  go_enter Try.func22, Try.ntmps22
  go_wp2_with fail
  refine cT.out.mono ?_
  rintro e w1 ⟨a, rfl, hB, _, hR, hk1, _⟩
  obtain ⟨g, o, rfl, hc⟩ := first_cell hB rfl
  have HR := Lib.hid hR
  have hnil := run_eq_nil_some w1 ⟨g, o, none⟩ 1 1
  have hp1 := (hk1.block _ hk0 (by simp; omega)).trans HP.out
  have HP1 := Lib.hid hp1
  clear hR hB hp1
  have hc0 : w1.cell? ⟨g, o, none⟩ = some (.int .u8 1) := hc
  clear hc
  go_wp2_with fail
  refine (number_yes HR.out hN rfl HM.out).mono ?_
  rintro e w2 ⟨rfl, hR2, hk2⟩
  have K2 : Keeps [rb, pb] w w2 := (hk1.mono (fun j hj => .inl (by simp at hj; simp [hj]))).trans (G := [rb]) hk2 (by simp)
  have HR2 := Lib.hid hR2
  have hp2 := (hk2.block _ (lt_of_heap HP1.out) (by simp; omega)).trans HP1.out
  have fp := frozen_of_row w2 pb 0 _ _ hp2
  have fp1 := frozen_of_row w2 pb 1 _ _ hp2
  obtain ⟨e0, e1, _⟩ := pf_cells hp2 (by simp [zero32])
  have hlp := lt_of_heap hp2
  have HP2 := Lib.hid hp2
  clear hR2 hp2
  go_wp2_with fail
  have hks : Keeps [pb] w2 (w2.setCell ⟨pb, 0, none⟩ (.bool true)) := (Keeps.refl _ _).setCell (.inl (by simp)) _
  have K2s := K2.trans (G := [pb]) hks (by simp)
  have cT3 := Lib.hid (take_no (HR2.out.keeps hks (by simp; omega) (by simp; omega)) n hl (by omega))
  refine cT3.out.mono ?_
  rintro e w3 ⟨rfl, hR3, hk3⟩
  have hB3 := BytesAt_nil w3
  have K3 := K2s.trans (G := [rb]) hk3 (by simp)
  have hs3 := hR3.sh
  have HR3 := Lib.hid hR3
  have HB3 := Lib.hid hB3
  have hw3 : w3.heap[pb]? = some (.cells (pfCells ⟨true, [], zero32, []⟩ (.slice none 0 0) (.slice none 0 0)).toArray 30 (0, 0)) := by
    rw [hk3.block pb (by simpa using hlp) (by simp; omega)]
    have h := heap_setCell_same w2 pb 0 _ _ (.bool true) HP2.out
    rw [pf_set0] at h
    exact h
  have hlp3 := lt_of_heap hw3
  have HW3 := Lib.hid hw3
  clear hR3 hB3 hw3 e0 e1 fp fp1
  go_wp2_with (refine wpList_append_bytes rfl (.const (.slice none 0 0)) (.tmp 32) rfl w3.heap.size _ 0 [] (by rfl) (World.ownsRow_nil _ _ _ _) _ [] (by rfl) HB3.out (by simp; try omega) (Nat.le_refl _) ?_)
  intro v4 w4 ho4 hg4
  have hk4 : Keeps [] w3 w4 := (Keeps.refl _ _).grown hg4 (by simp [Value.ownBlock])
  have K4 := K3.trans (G := []) hk4 (by simp)
  have hp4 := (hk4.block _ hlp3 (by simp)).trans HW3.out
  have f4 := frozen_of_row w4 pb 1 _ _ hp4
  obtain ⟨_, e41, _⟩ := pf_cells hp4 (by simp [zero32])
  have hR4 := HR3.out.keeps hk4 (by simp) (by simp)
  have hs4 := hR4.sh
  obtain ⟨a4, c4, rfl⟩ := owns_slice ho4
  have hlp4 := lt_of_heap hp4
  have hlr4 := hR4.lt
  have HP4 := Lib.hid hp4
  have HR4 := Lib.hid hR4
  have HO4 := Lib.hid ho4
  clear hp4 hR4 hs3 ho4 hg4
  go_wp2_with fail
  go_ret
  exact ⟨rfl, K4.setCell (.inl (by simp)) _⟩
set_option maxRecDepth 100000 in
set_option maxHeartbeats 1600000 in
theorem ans_full {w : World} {rb pb N : Nat} {x y : UInt8} {t : List UInt8} (hr : Rd w rb N (1 :: x :: y :: t) false) {n : Nat} (hm : n = x.toNat + 256 * y.toNat) (hb : n ≤ 128) (hl : n ≤ t.length) (hN : N ≤ rb) (hN2 : N ≤ pb) (hne : pb ≠ rb) (hp : w.heap[pb]? = some (.cells (pfCells ⟨false, [], zero32, []⟩ (.slice none 0 0) (.slice none 0 0)).toArray 30 (0, 0))) :
    Calls Try.prog 22 #[.pointer (some ⟨rb, 0, none⟩), .pointer (some ⟨pb, 0, none⟩)] w fun e w' => e = .returned (.bool true) ∧ Rd w' rb N (t.drop n) false ∧ ∃ vv, w'.heap[pb]? = some (.cells (pfCells ⟨true, t.take n, zero32, []⟩ vv (.slice none 0 0)).toArray 30 (0, 0)) ∧ OwnB w' vv (t.take n) ∧ (∀ k, vv.ownBlock = some k → N ≤ k ∧ k ≠ pb ∧ k ≠ rb) ∧ Keeps [rb, pb] w w' := by
  have HM := Lib.hid hm
  clear hm
  have g5 : ¬ (128 : Int) < (n : Int) := by omega
  have cT := Lib.hid (take_yes hr 1 (by simp) hN)
  have hk0 := lt_of_heap hp
  have HP := Lib.hid hp
  clear hr hp
  go_enter Try.func22, Try.ntmps22
  go_wp2_with fail
  refine cT.out.mono ?_
  rintro e w1 ⟨a, rfl, hB, _, hR, hk1, _⟩
  obtain ⟨g, o, rfl, hc⟩ := first_cell hB rfl
  have HR := Lib.hid hR
  have hnil := run_eq_nil_some w1 ⟨g, o, none⟩ 1 1
  have hp1 := (hk1.block _ hk0 (by simp; omega)).trans HP.out
  have HP1 := Lib.hid hp1
  clear hR hB hp1
  have hc0 : w1.cell? ⟨g, o, none⟩ = some (.int .u8 1) := hc
  clear hc
  go_wp2_with fail
  refine (number_yes HR.out hN rfl HM.out).mono ?_
  rintro e w2 ⟨rfl, hR2, hk2⟩
  have K2 : Keeps [rb, pb] w w2 := (hk1.mono (fun j hj => .inl (by simp at hj; simp [hj]))).trans (G := [rb]) hk2 (by simp)
  have HR2 := Lib.hid hR2
  have hp2 := (hk2.block _ (lt_of_heap HP1.out) (by simp; omega)).trans HP1.out
  have fp := frozen_of_row w2 pb 0 _ _ hp2
  have fp1 := frozen_of_row w2 pb 1 _ _ hp2
  obtain ⟨e0, e1, _⟩ := pf_cells hp2 (by simp [zero32])
  have hlp := lt_of_heap hp2
  have HP2 := Lib.hid hp2
  clear hR2 hp2
  go_wp2_with fail
  have hks : Keeps [pb] w2 (w2.setCell ⟨pb, 0, none⟩ (.bool true)) := (Keeps.refl _ _).setCell (.inl (by simp)) _
  have K2s := K2.trans (G := [pb]) hks (by simp)
  have cT3 := Lib.hid (take_yes (HR2.out.keeps hks (by simp; omega) (by simp; omega)) n hl hN)
  refine cT3.out.mono ?_
  rintro e w3 ⟨a3, rfl, hB3, _, hR3, hk3, _⟩
  have K3 := K2s.trans (G := [rb]) hk3 (by simp)
  have hs3 := hR3.sh
  have HR3 := Lib.hid hR3
  have HB3 := Lib.hid hB3
  have hw3 : w3.heap[pb]? = some (.cells (pfCells ⟨true, [], zero32, []⟩ (.slice none 0 0) (.slice none 0 0)).toArray 30 (0, 0)) := by
    rw [hk3.block pb (by simpa using hlp) (by simp; omega)]
    have h := heap_setCell_same w2 pb 0 _ _ (.bool true) HP2.out
    rw [pf_set0] at h
    exact h
  have hlp3 := lt_of_heap hw3
  have HW3 := Lib.hid hw3
  clear hR3 hB3 hw3 e0 e1 fp fp1
  go_wp2_with (refine wpList_append_bytes rfl (.const (.slice none 0 0)) (.tmp 32) rfl w3.heap.size _ 0 [] (by rfl) (World.ownsRow_nil _ _ _ _) _ (t.take n) (by rfl) HB3.out (by simp; try omega) (Nat.le_refl _) ?_)
  intro v4 w4 ho4 hg4
  have hk4 : Keeps [] w3 w4 := (Keeps.refl _ _).grown hg4 (by simp [Value.ownBlock])
  have K4 := K3.trans (G := []) hk4 (by simp)
  have hp4 := (hk4.block _ hlp3 (by simp)).trans HW3.out
  have f4 := frozen_of_row w4 pb 1 _ _ hp4
  obtain ⟨_, e41, _⟩ := pf_cells hp4 (by simp [zero32])
  have hR4 := HR3.out.keeps hk4 (by simp) (by simp)
  have hs4 := hR4.sh
  obtain ⟨a4, c4, rfl⟩ := owns_slice ho4
  have hlp4 := lt_of_heap hp4
  have hlr4 := hR4.lt
  have HP4 := Lib.hid hp4
  have HR4 := Lib.hid hR4
  have HO4 := Lib.hid ho4
  clear hp4 hR4 hs3 ho4 hg4
  go_wp2_with fail
  go_ret
  have hl4 : (t.take n).length = n := by rw [List.length_take]; omega
  refine ⟨rfl, HR4.out.keeps (F := [pb]) ((Keeps.refl _ _).setCell (.inl (by simp)) _) (by simp; omega) (by simp; omega), .slice a4 n c4, ?_, ?_, ?_, K4.setCell (.inl (by simp)) _⟩
  · have h := heap_setCell_same w4 pb 1 _ _ (.slice a4 n c4) HP4.out
    rw [pf_set1 _ _ _ _ (t.take n)] at h
    exact h
  · unfold OwnB
    rw [hl4, List.map_take]
    exact ownsRow_keep (ownsRow_base HO4.out) (fun j hj => Below.heap_setCell _ _ _ _ (by
      have := (World.ownsRow.lt HO4.out j hj).1
      simp
      omega))
  · intro j hj
    have := (World.ownsRow.lt HO4.out j hj).1
    have := HR3.out.lt
    exact ⟨by omega, by omega, by omega⟩
end Go.Proofs.Ytnobhfpjchofpaa
