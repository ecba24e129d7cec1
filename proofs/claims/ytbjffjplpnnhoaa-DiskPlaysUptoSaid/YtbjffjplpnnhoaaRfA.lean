/-
  The reference disk (ledgerref4) as a value, and where it lies in memory; its small calls.
-/
import Derived.Test.YtbjffjplpnnhoaaLsA
import Derived.Test.YtbjffjplpnnhoaaApp
namespace Go.Proofs.Ytbjffjplpnnhoaa
set_option linter.unusedVariables false
set_option linter.unusedSimpArgs false
open Go.RowKit

theorem owns_slice' {w : World} {base : Nat} {e : TypeId} {size : Nat} {v : Value} {n : Nat} {xs : List Value} (h : w.ownsRow base e size v n xs) : ∃ a c, v = .slice a n c := by
  rcases h.2 with ⟨rfl, h0⟩ | ⟨g, cap, cur, rfl, _⟩
  · exact ⟨none, 0, by rw [h0]⟩
  · exact ⟨_, _, rfl⟩
/-- What happened. -/
structure Ev where
  kind : Nat
  page : Nat
  bit : Nat
  data : List UInt8
  pat : Nat
def Ev.cells (e : Ev) (dv : Value) : List Value := [.int .i64 e.kind, .int .i64 e.page, .int .i64 e.bit, dv, .int .u32 e.pat]
structure R where
  base : List UInt8
  log : List Ev
  armed : Int
  down : Bool
  ages : Int
  seen : Int
def evRow : List Ev → List Value → List Value
  | e :: l, v :: vs => e.cells v ++ evRow l vs
  | _, _ => []
theorem evRow_length : ∀ (l : List Ev) (vs : List Value), vs.length = l.length → (evRow l vs).length = l.length * 5
  | [], [], _ => rfl
  | e :: l, v :: vs, h => by
    have := evRow_length l vs (by simpa using h)
    simp only [evRow, Ev.cells, List.length_append, List.length_cons, List.length_nil, this]
    omega
theorem evRow_snoc : ∀ (l : List Ev) (vs : List Value) (e : Ev) (v : Value), vs.length = l.length → evRow (l ++ [e]) (vs ++ [v]) = evRow l vs ++ e.cells v
  | [], [], e, v, _ => by simp [evRow]
  | x :: l, u :: vs, e, v, h => by
    simp only [List.cons_append, evRow, List.append_assoc]
    rw [evRow_snoc l vs e v (by simpa using h)]
theorem evRow_at : ∀ (l : List Ev) (vs : List Value), vs.length = l.length → ∀ (i : Nat) (e : Ev) (v : Value), l[i]? = some e → vs[i]? = some v → ∃ xs zs, evRow l vs = xs ++ e.cells v ++ zs ∧ xs.length = i * 5
  | [], _, _, i, e, v, h, _ => by simp at h
  | x :: l, u :: vs, hl, 0, e, v, h, h2 => by
    simp only [List.getElem?_cons_zero, Option.some.injEq] at h h2
    subst h h2
    exact ⟨[], evRow l vs, by simp [evRow], rfl⟩
  | x :: l, u :: vs, hl, i + 1, e, v, h, h2 => by
    obtain ⟨xs, zs, h3, h4⟩ := evRow_at l vs (by simpa using hl) i e v (by simpa using h) (by simpa using h2)
    refine ⟨x.cells u ++ xs, zs, by simp only [evRow, h3, List.append_assoc], ?_⟩
    rw [List.length_append, h4]
    simp [Ev.cells]
    omega
def rCells (r : R) (bv lv : Value) : Array Value := #[bv, lv, .int .i64 r.armed, .bool r.down, .int .i64 r.ages, .int .i64 r.seen]

structure RefIn (w : World) (b : Nat) (r : R) (bv lv : Value) (dvs : List Value) : Prop where
  root : w.heap[b]? = some (.cells (rCells r bv lv) 108 (0, 0))
  base : OwnB w bv r.base
  log : w.ownsRow 0 112 5 lv r.log.length (evRow r.log dvs)
  len : dvs.length = r.log.length
  data : ∀ (i : Nat) (e : Ev) (v : Value), r.log[i]? = some e → dvs[i]? = some v → OwnB w v e.data
  ones : ∀ v ∈ dvs, v.oneCell' = true
  ap1 : ∀ k, lv.ownBlock = some k → k ≠ b ∧ bv.ownBlock ≠ some k ∧ ∀ d ∈ dvs, d.ownBlock ≠ some k
  ap2 : bv.ownBlock ≠ some b ∧ ∀ d ∈ dvs, d.ownBlock ≠ some b
  arm0 : 0 ≤ r.armed
  arm1 : r.armed ≤ 9223372036854775807
def rFoot (b : Nat) (bv lv : Value) (dvs : List Value) : List Nat := b :: (lv.ownBlock.toList ++ bv.ownBlock.toList ++ dvs.flatMap (fun d => d.ownBlock.toList))
def RefAt (w : World) (b : Nat) (r : R) (F : List Nat) : Prop := ∃ bv lv dvs, RefIn w b r bv lv dvs ∧ F = rFoot b bv lv dvs
section
variable {w w' : World} {b : Nat} {r : R} {bv lv : Value} {dvs : List Value} {F : List Nat}
theorem RefIn.keep (h : RefIn w b r bv lv dvs) (hb : ∀ k ∈ rFoot b bv lv dvs, w'.heap[k]? = w.heap[k]?) : RefIn w' b r bv lv dvs := by
  refine ⟨(hb b (by simp [rFoot])).trans h.root, ownsRow_keep h.base (fun k hk => hb k (by simp [rFoot, hk])), ownsRow_keep h.log (fun k hk => hb k (by simp [rFoot, hk])), h.len, fun i e v h1 h2 => ?_, h.ones, h.ap1, h.ap2, h.arm0, h.arm1⟩
  refine ownsRow_keep (h.data i e v h1 h2) (fun k hk => hb k ?_)
  simp only [rFoot, List.mem_cons, List.mem_append, List.mem_flatMap, Option.mem_toList]
  exact .inr (.inr ⟨v, List.mem_of_getElem? h2, hk⟩)
theorem RefIn.lt (h : RefIn w b r bv lv dvs) : ∀ k ∈ rFoot b bv lv dvs, k < w.heap.size := by
  intro k hk
  simp only [rFoot, List.mem_cons, List.mem_append, List.mem_flatMap, Option.mem_toList] at hk
  rcases hk with rfl | (hk | hk) | ⟨v, hv, hk⟩
  · exact lt_of_heap h.root
  · exact (World.ownsRow.lt h.log k hk).2
  · exact (World.ownsRow.lt h.base k hk).2
  · obtain ⟨i, hi, rfl⟩ := List.getElem_of_mem hv
    exact (World.ownsRow.lt (h.data i (r.log[i]'(by rw [← h.len]; exact hi)) _ (List.getElem?_eq_getElem _) (List.getElem?_eq_getElem _)) k hk).2
theorem RefAt.keep (h : RefAt w b r F) (hb : ∀ k ∈ F, w'.heap[k]? = w.heap[k]?) : RefAt w' b r F := by
  obtain ⟨bv, lv, dvs, hI, rfl⟩ := h
  exact ⟨bv, lv, dvs, hI.keep hb, rfl⟩
theorem RefAt.lt (h : RefAt w b r F) : ∀ k ∈ F, k < w.heap.size := by obtain ⟨_, _, _, hI, rfl⟩ := h; exact hI.lt
theorem RefIn.cells (h : RefIn w b r bv lv dvs) :
    w.cell? ⟨b, 0, none⟩ = some bv ∧ w.cell? ⟨b, 1, none⟩ = some lv ∧ w.cell? ⟨b, 2, none⟩ = some (.int .i64 r.armed) ∧ w.cell? ⟨b, 3, none⟩ = some (.bool r.down) ∧ w.cell? ⟨b, 4, none⟩ = some (.int .i64 r.ages) ∧ w.cell? ⟨b, 5, none⟩ = some (.int .i64 r.seen) := by
  refine ⟨?_, ?_, ?_, ?_, ?_, ?_⟩ <;> (rw [cell_of_row w b _ _ _ _ h.root]; rfl)
theorem RefIn.free (h : RefIn w b r bv lv dvs) (j : Nat) : w.frozen? ⟨b, j, none⟩ = false := frozen_of_row w b j _ _ h.root
theorem RefIn.bform (h : RefIn w b r bv lv dvs) : ∃ a c, bv = .slice a r.base.length c := owns_slice' h.base
theorem RefIn.lform (h : RefIn w b r bv lv dvs) : ∃ a c, lv = .slice a r.log.length c := owns_slice' h.log
/-- One cell of the struct is written. -/
theorem RefIn.setc (h : RefIn w b r bv lv dvs) (r' : R) (j : Nat) (v : Value) (h1 : r'.base = r.base) (h2 : r'.log = r.log) (h3 : 0 ≤ r'.armed) (h4 : r'.armed ≤ 9223372036854775807) (hc : rCells r' bv lv = (rCells r bv lv).setIfInBounds j v) :
    RefIn (w.setCell ⟨b, j, none⟩ v) b r' bv lv dvs ∧ Keeps [b] w (w.setCell ⟨b, j, none⟩ v) := by
  have hk : Keeps [b] w (w.setCell ⟨b, j, none⟩ v) := (Keeps.refl _ _).setCell (.inl (by simp)) _
  have far : ∀ k, k ≠ b → (w.setCell ⟨b, j, none⟩ v).heap[k]? = w.heap[k]? := fun k hk => Below.heap_setCell _ _ _ _ (by simpa using hk)
  refine ⟨⟨?_, ?_, ?_, by rw [h2]; exact h.len, fun i e u h5 h6 => ?_, h.ones, h.ap1, h.ap2, h3, h4⟩, hk⟩
  · rw [hc]; exact heap_setCell_same w b j _ _ v h.root
  · rw [h1]; exact ownsRow_keep h.base (fun k hk => far k (fun e => h.ap2.1 (e ▸ hk)))
  · rw [h2]; exact ownsRow_keep h.log (fun k hk => far k (h.ap1 k hk).1)
  · rw [h2] at h5
    exact ownsRow_keep (h.data i e u h5 h6) (fun k hk => far k (fun e => h.ap2.2 u (List.mem_of_getElem? h6) (e ▸ hk)))
end
def refThing (b : Nat) (r : R) (F : List Nat) : Thing := ⟨F, fun w => RefAt w b r F, fun _ _ h hk => h.keep hk, fun _ h => h.lt⟩
end Go.Proofs.Ytbjffjplpnnhoaa

/-
  The walks of ledgerref4's small calls.
-/
namespace Go.Proofs.Ytbjffjplpnnhoaa
set_option linter.unusedVariables false
set_option linter.unusedSimpArgs false
open Go.RowKit

theorem rfPower_any {w : World} {b : Nat} {r : R} {F : List Nat} (h : RefAt w b r F) :
    Calls Try.prog 49 #[.pointer (some ⟨b, 0, none⟩)] w fun e w' => e = .returned (.bool (!r.down)) ∧ w = w' := by
  obtain ⟨bv, lv, dvs, hI, rfl⟩ := h
  obtain ⟨c0, c1, c2, c3, c4, c5⟩ := hI.cells
  go_enter Try.func49, Try.ntmps49
  go_wp2_with fail
  go_ret
  exact ⟨rfl, rfl⟩
theorem rfEpoch_any {w : World} {b : Nat} {r : R} {F : List Nat} (h : RefAt w b r F) :
    Calls Try.prog 50 #[.pointer (some ⟨b, 0, none⟩)] w fun e w' => e = .returned (.int .i64 r.ages) ∧ w = w' := by
  obtain ⟨bv, lv, dvs, hI, rfl⟩ := h
  obtain ⟨c0, c1, c2, c3, c4, c5⟩ := hI.cells
  go_enter Try.func50, Try.ntmps50
  go_wp2_with fail
  go_ret
  exact ⟨rfl, rfl⟩
theorem rfPages_any {w : World} {b : Nat} {r : R} {F : List Nat} (h : RefAt w b r F) {n : Nat} (hn : r.base.length = 256 * n) (hm : n ≤ 4096) :
    Calls Try.prog 52 #[.pointer (some ⟨b, 0, none⟩)] w fun e w' => e = .returned (.int .i64 n) ∧ w = w' := by
  obtain ⟨bv, lv, dvs, hI, rfl⟩ := h
  obtain ⟨c0, c1, c2, c3, c4, c5⟩ := hI.cells
  obtain ⟨a, c, rfl⟩ := hI.bform
  rw [hn] at c0
  have hd : (256 * (n : Int)).tdiv 256 = (n : Int) := by rw [Int.tdiv_eq_ediv_of_nonneg (by omega)]; omega
  have hd2 : (256 * (n : Int)) / 256 = (n : Int) := by omega
  go_enter Try.func52, Try.ntmps52
  go_wp2_with fail
  go_ret
  exact ⟨rfl, rfl⟩
theorem rfClaim_any {w : World} {b : Nat} {r : R} {F : List Nat} (h : RefAt w b r F) :
    Calls Try.prog 66 #[.pointer (some ⟨b, 0, none⟩)] w fun e w' => e = .returned (.int .i64 (wrap64 (r.ages + 1))) ∧ Keeps F w w' ∧ RefAt w' b { r with ages := wrap64 (r.ages + 1) } F := by
  obtain ⟨bv, lv, dvs, hI, rfl⟩ := h
  obtain ⟨c0, c1, c2, c3, c4, c5⟩ := hI.cells
  have f4 := hI.free 4
  obtain ⟨hI2, hk⟩ := hI.setc { r with ages := wrap64 (r.ages + 1) } 4 (.int .i64 (wrap64 (r.ages + 1))) rfl rfl hI.arm0 hI.arm1 rfl
  have HI := Lib.hid hI2
  have HK := Lib.hid hk
  clear hI2 hk
  go_enter Try.func66, Try.ntmps66
  go_wp2_with fail
  go_ret
  exact ⟨rfl, HK.out.mono (by simp [rFoot]), bv, lv, dvs, HI.out, rfl⟩
theorem rfArm_any {w : World} {b : Nat} {r : R} {F : List Nat} (h : RefAt w b r F) (n : Int) (n1 : n ≤ 9223372036854775807) {r' : R} (hr : r' = if r.down then r else { r with armed := max n 0 }) :
    Calls Try.prog 62 #[.pointer (some ⟨b, 0, none⟩), .int .i64 n] w fun e w' => e = .returned (.tuple #[]) ∧ Keeps F w w' ∧ RefAt w' b r' F := by
  obtain ⟨bv, lv, dvs, hI, rfl⟩ := h
  obtain ⟨c0, c1, c2, c3, c4, c5⟩ := hI.cells
  have f2 := hI.free 2
  obtain ⟨hI2, hk⟩ := hI.setc { r with armed := max n 0 } 2 (.int .i64 (max n 0)) rfl rfl (by simp only; omega) (by simp only; omega) rfl
  have HI := Lib.hid hI2
  have HI0 := Lib.hid hI
  have HK := Lib.hid (hk.mono (G := rFoot b bv lv dvs) (by simp [rFoot]))
  have HR := Lib.hid hr
  cases hd : r.down with
  | true =>
    rw [hd] at c3
    clear hI hI2 hk hr
    by_cases hn : n < 0
    all_goals
      go_enter Try.func62, Try.ntmps62
      go_wp2_with fail
      go_end0
      refine ⟨rfl, Keeps.refl _ _, bv, lv, dvs, ?_, rfl⟩
      have h := HI0.out
      rw [HR.out, hd, if_pos rfl]
      exact h
  | false =>
    rw [hd] at c3
    clear hI hI2 hk hr
    by_cases hn : n < 0
    · have HM := Lib.hid (show max n 0 = 0 by omega)
      go_enter Try.func62, Try.ntmps62
      go_wp2_with fail
      go_end0
      refine ⟨rfl, ?_, bv, lv, dvs, ?_, rfl⟩
      · have h := HK.out; rw [HM.out] at h; exact h
      · have h := HI.out
        rw [HR.out, hd, if_neg (by simp)]
        rw [HM.out] at h ⊢
        rw [hd] at h
        exact h
    · have HM := Lib.hid (show max n 0 = n by omega)
      go_enter Try.func62, Try.ntmps62
      go_wp2_with fail
      go_end0
      refine ⟨rfl, ?_, bv, lv, dvs, ?_, rfl⟩
      · have h := HK.out; rw [HM.out] at h; exact h
      · have h := HI.out
        rw [HR.out, hd, if_neg (by simp)]
        rw [HM.out] at h ⊢
        rw [hd] at h
        exact h
/-- The act. -/
def R.act (r : R) : R := if r.armed = 0 then r else { r with armed := r.armed - 1, down := r.down || decide (r.armed = 1) }
theorem rfAct_any {w : World} {b : Nat} {r : R} {F : List Nat} (h : RefAt w b r F) (hd : r.down = false) :
    Calls Try.prog 69 #[.pointer (some ⟨b, 0, none⟩)] w fun e w' => e = .returned (.bool (decide (r.armed ≠ 1))) ∧ Keeps F w w' ∧ RefAt w' b r.act F := by
  obtain ⟨bv, lv, dvs, hI, rfl⟩ := h
  obtain ⟨c0, c1, c2, c3, c4, c5⟩ := hI.cells
  have f2 := hI.free 2
  have f3 := hI.free 3
  have a0 := hI.arm0
  have a1 := hI.arm1
  rw [hd] at c3
  have HI := Lib.hid hI
  have HD := Lib.hid hd
  clear hd
  by_cases h0 : r.armed = 0
  · have HE := Lib.hid h0
    rw [h0] at c2
    clear h0 hI a0 a1
    go_enter Try.func69, Try.ntmps69
    go_wp2_with fail
    go_ret
    refine ⟨by rw [HE.out]; rfl, Keeps.refl _ _, bv, lv, dvs, ?_, rfl⟩
    have e : r.act = r := by unfold R.act; rw [if_pos HE.out]
    rw [e]
    exact HI.out
  · by_cases h1 : r.armed = 1
    · have HE := Lib.hid h1
      obtain ⟨hI2, hk2⟩ := hI.setc { r with armed := 0 } 2 (.int .i64 0) rfl rfl (by simp) (by simp) rfl
      obtain ⟨hI3, hk3⟩ := hI2.setc { r with armed := 0, down := true } 3 (.bool true) rfl rfl (by simp) (by simp) rfl
      have HI3 := Lib.hid hI3
      have HK3 := Lib.hid (hk2.trans hk3 (by simp))
      rw [h1] at c2
      clear h0 h1 hI a0 a1 hI2 hk2 hI3 hk3
      go_enter Try.func69, Try.ntmps69
      go_wp2_with fail
      go_ret
      refine ⟨by rw [HE.out]; rfl, HK3.out.mono (by simp [rFoot]), bv, lv, dvs, ?_, rfl⟩
      have e : r.act = { r with armed := 0, down := true } := by unfold R.act; rw [if_neg (by rw [HE.out]; omega), HE.out]; simp
      rw [e]
      exact HI3.out
    · obtain ⟨hI2, hk2⟩ := hI.setc { r with armed := r.armed - 1 } 2 (.int .i64 (r.armed - 1)) rfl rfl (by simp only; omega) (by simp only; omega) rfl
      obtain ⟨m, hm⟩ : ∃ m, m = r.armed := ⟨_, rfl⟩
      have HI2 := Lib.hid hI2
      have HK2 := Lib.hid hk2
      rw [← hm] at h0 h1 a0 a1 c2
      have m0 : ¬ m = 0 := h0
      have m1 : ¬ m - 1 = 0 := by omega
      have m2 : 0 < m - 1 := by omega
      have HM := Lib.hid hm
      clear hI hI2 hk2 hm
      go_enter Try.func69, Try.ntmps69
      go_wp2_with fail
      go_ret
      refine ⟨by rw [← HM.out]; simp [h1], by rw [HM.out]; exact HK2.out.mono (by simp [rFoot]), bv, lv, dvs, ?_, rfl⟩
      have e : r.act = { r with armed := r.armed - 1 } := by
        unfold R.act
        rw [if_neg (by rw [← HM.out]; exact h0)]
        have : decide (r.armed = 1) = false := by rw [← HM.out]; simp [h1]
        rw [this]
        simp
      rw [e, HM.out]
      exact HI2.out
end Go.Proofs.Ytbjffjplpnnhoaa

/-
  ledgerref4: an event is added to the log; copied; Sync and Flip.
-/
namespace Go.Proofs.Ytbjffjplpnnhoaa
set_option linter.unusedVariables false
set_option linter.unusedSimpArgs false
open Go.RowKit

def zEvent : Value := .agg #[.int .i64 0, .int .i64 0, .int .i64 0, .slice none 0 0, .int .u32 0]
theorem info_event : (Try.prog.info? 112).map (fun i => (i.zero, i.size, i.bytes)) = some (some zEvent, 5, 56) := by kernel_rfl
theorem Ev.ones (e : Ev) {dv : Value} (h : dv.oneCell' = true) : ∀ u ∈ e.cells dv, u.oneCell' = true := by
  intro u hu
  simp only [Ev.cells, List.mem_cons, List.not_mem_nil, or_false] at hu
  rcases hu with rfl | rfl | rfl | rfl | rfl
  · rfl
  · rfl
  · rfl
  · exact h
  · rfl
/-- An event at the log's end: what append answers, and what stands behind the store. -/
theorem push_event {w : World} {b : Nat} {r : R} {bv lv : Value} {dvs : List Value} (hI : RefIn w b r bv lv dvs) (e : Ev) {dv : Value} (hdv : OwnB w dv e.data) (hd1 : dv.oneCell' = true)
    (hfar : ∀ k, dv.ownBlock = some k → k ≠ b ∧ lv.ownBlock ≠ some k) (hq : r.log.length < 4294967296) (ty : TypeId) :
    ∃ lv' w2, (∃ g cap, lv' = .slice (some ⟨g, 0, none⟩) (r.log.length + 1) cap) ∧ (Builtin.append_ #[106, 106] ty #[lv, .slice (some ⟨w.heap.size, 0, none⟩) 1 1]).run Try.prog (w.alloc (.cells (e.cells dv).toArray 112 (0, 0))) = .ok lv' w2 ∧
      w2.heap[b]? = w.heap[b]? ∧ RefIn (w2.setCell ⟨b, 1, none⟩ lv') b { r with log := r.log ++ [e] } bv lv' (dvs ++ [dv]) ∧ Keeps (rFoot b bv lv dvs) w (w2.setCell ⟨b, 1, none⟩ lv') ∧
      ∀ k ∈ rFoot b bv lv' (dvs ++ [dv]), k ∈ rFoot b bv lv dvs ∨ dv.ownBlock = some k ∨ w.heap.size ≤ k := by
  obtain ⟨i0, hi0, hz0, hz1, hz2⟩ := info_parts info_event
  obtain ⟨w1, hw1⟩ : ∃ w1, w1 = w.alloc (.cells (e.cells dv).toArray 112 (0, 0)) := ⟨_, rfl⟩
  have hs1 : w1.heap.size = w.heap.size + 1 := by rw [hw1]; simp
  have old : ∀ k, k < w.heap.size → w1.heap[k]? = w.heap[k]? := fun k hk => by rw [hw1]; exact heap_old_at hk
  have hlog1 : w1.ownsRow 0 112 5 lv r.log.length (evRow r.log dvs) := ownsRow_keep hI.log (fun k hk => old k (World.ownsRow.lt hI.log k hk).2)
  have l2 : ∀ j u, (e.cells dv)[j]? = some u → w1.cell? ((⟨w.heap.size, 0, none⟩ : Addr).add j) = some u := by rw [hw1]; exact World.news_of_block (cs := (e.cells dv).toArray) (t := 112) (fr := (0, 0)) (heap_new_at rfl)
  obtain ⟨g, cap, w2, hr, h2, h3, h4, h5⟩ := run_append_lies (P := Try.prog) w1 106 ty 0 112 i0 zEvent 5 56 Try.underlying106 hi0 hz0 hz1 hz2 (by rfl) (by omega) lv r.log.length (evRow r.log dvs) hlog1 ⟨w.heap.size, 0, none⟩ 1 1 (e.cells dv) rfl l2 (e.ones hd1) (by omega) (by simp only [maxLen]; omega) (by omega) (by omega) (w.heap.size + 1) hs1
  have hbl := lt_of_heap hI.root
  have far : ∀ k, k < w.heap.size → lv.ownBlock ≠ some k → w2.heap[k]? = w.heap[k]? := fun k hk hne => by
    rw [h3.block k (by omega) (fun e => hne e.symm)]
    exact old k hk
  have hlb : lv.ownBlock ≠ some b := fun e => (hI.ap1 b e).1 rfl
  have hb2 := far b hbl hlb
  have hgb : g ≠ b := by
    rcases h4 with h4 | h4
    · exact fun e => hlb (e ▸ h4)
    · omega
  have hroot := hI.root
  rw [← hb2] at hroot
  have far2 : ∀ k, k ≠ b → (w2.setCell ⟨b, 1, none⟩ (.slice (some ⟨g, 0, none⟩) (r.log.length + 1) cap)).heap[k]? = w2.heap[k]? := fun k hk => Below.heap_setCell _ _ _ _ (by simpa using hk)
  have hbvl : ∀ k, bv.ownBlock = some k → k < w.heap.size := fun k hk => (World.ownsRow.lt hI.base k hk).2
  have hdvl : ∀ k, dv.ownBlock = some k → k < w.heap.size := fun k hk => (World.ownsRow.lt hdv k hk).2
  have hbne : ∀ k, bv.ownBlock = some k → lv.ownBlock ≠ some k := fun k hk e => (hI.ap1 k e).2.1 hk
  have hgl : ∀ d : Value, (∀ k, d.ownBlock = some k → k < w.heap.size ∧ lv.ownBlock ≠ some k) → d.ownBlock ≠ some g := fun d hd e => by
    obtain ⟨h6, h7⟩ := hd g e
    rcases h4 with h4 | h4
    · exact h7 h4
    · omega
  have hdat : ∀ d ∈ dvs, ∀ k, d.ownBlock = some k → k < w.heap.size ∧ lv.ownBlock ≠ some k := fun d hd k hk => by
    obtain ⟨i, hi, rfl⟩ := List.getElem_of_mem hd
    refine ⟨(World.ownsRow.lt (hI.data i (r.log[i]'(by rw [← hI.len]; exact hi)) _ (List.getElem?_eq_getElem _) (List.getElem?_eq_getElem _)) k hk).2, fun e => ?_⟩
    exact (hI.ap1 k e).2.2 _ (List.getElem_mem hi) hk
  refine ⟨.slice (some ⟨g, 0, none⟩) (r.log.length + 1) cap, w2, ⟨g, cap, rfl⟩, by rw [← hw1]; exact hr, hb2, ⟨?_, ?_, ?_, by simp [hI.len], fun i e' v h6 h7 => ?_, fun v hv => ?_, fun k hk => ?_, ⟨hI.ap2.1, fun d hd => ?_⟩, hI.arm0, hI.arm1⟩, ?_, fun k hk => ?_⟩
  · exact heap_setCell_same w2 b 1 _ _ _ hroot
  · exact ownsRow_keep hI.base (fun k hk => (far2 k (fun e => hI.ap2.1 (e ▸ hk))).trans (far k (hbvl k hk) (hbne k hk)))
  · rw [evRow_snoc _ _ _ _ hI.len, List.length_append]
    exact ownsRow_keep h2 (fun k hk => far2 k (by have e : g = k := by simpa [Value.ownBlock] using hk
                                                  omega))
  · by_cases hlt : i < r.log.length
    · rw [List.getElem?_append_left hlt] at h6
      rw [List.getElem?_append_left (by rw [hI.len]; exact hlt)] at h7
      have hm := List.mem_of_getElem? h7
      exact ownsRow_keep (hI.data i e' v h6 h7) (fun k hk => (far2 k (fun e => hI.ap2.2 v hm (e ▸ hk))).trans (far k (hdat v hm k hk).1 (hdat v hm k hk).2))
    · rw [List.getElem?_append_right (by omega)] at h6
      rw [List.getElem?_append_right (by rw [hI.len]; omega), hI.len] at h7
      have e0 : i - r.log.length = 0 := by
        have := (List.getElem?_eq_some_iff.1 h6).1
        simp at this
        omega
      rw [e0] at h6 h7
      simp only [List.getElem?_cons_zero, Option.some.injEq] at h6 h7
      subst h6 h7
      exact ownsRow_keep hdv (fun k hk => (far2 k (fun e => (hfar k hk).1 e)).trans (far k (hdvl k hk) (hfar k hk).2))
  · rcases List.mem_append.1 hv with hv | hv
    · exact hI.ones v hv
    · rw [List.mem_singleton.1 hv]; exact hd1
  · have e0 : g = k := by simpa [Value.ownBlock] using hk
    subst e0
    refine ⟨hgb, hgl bv (fun k hk => ⟨hbvl k hk, hbne k hk⟩), fun d hd => ?_⟩
    rcases List.mem_append.1 hd with hd | hd
    · exact hgl d (hdat d hd)
    · rw [List.mem_singleton.1 hd]
      exact hgl dv (fun k hk => ⟨hdvl k hk, (hfar k hk).2⟩)
  · rcases List.mem_append.1 hd with hd | hd
    · exact hI.ap2.2 d hd
    · rw [List.mem_singleton.1 hd]
      exact fun e => (hfar b e).1 rfl
  · have k1 : Keeps [] w w1 := by rw [hw1]; exact (Keeps.refl _ _).alloc _
    have k2 := (k1.mono (G := rFoot b bv lv dvs) (by simp)).grown h3 (fun j hj => .inl (by simp [rFoot, hj]))
    exact k2.setCell (.inl (by simp [rFoot])) _
  · simp only [rFoot, List.mem_cons, List.mem_append, List.mem_flatMap, Option.mem_toList, List.flatMap_append, List.flatMap_cons, List.flatMap_nil, List.append_nil] at hk ⊢
    rcases hk with hk | (hk | hk) | hk | hk
    · exact .inl (.inl hk)
    · have e0 : g = k := by simpa [Value.ownBlock] using hk
      subst e0
      rcases h4 with h4 | h4
      · exact .inl (.inr (.inl (.inl h4)))
      · exact .inr (.inr (by omega))
    · exact .inl (.inr (.inl (.inr hk)))
    · exact .inl (.inr (.inr hk))
    · exact .inr (.inl hk)
end Go.Proofs.Ytbjffjplpnnhoaa
