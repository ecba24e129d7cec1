/-
  Layer 4's law of what lasts, the plain part: a page that no write names; truth values of one's own.
-/
import Derived.Test.YtbjffjplpnnhoaaPwA
import Derived.Test.YtbjffjplpnnhoaaOpenNest
namespace Go.Proofs.Ytbjffjplpnnhoaa
set_option linter.unusedVariables false
set_option linter.unusedSimpArgs false
open Go.RowKit

def pg (img : List UInt8) (p : Nat) : List UInt8 := (img.drop (p * 256)).take 256
theorem pg_get (img : List UInt8) (p x : Nat) : (pg img p)[x]? = if x < 256 then img[p * 256 + x]? else none := by
  unfold pg
  rw [List.getElem?_take]
  split
  · rw [List.getElem?_drop]
  · rfl
theorem pg_length {img : List UInt8} {n p : Nat} (hl : img.length = 256 * n) (hp : p < n) : (pg img p).length = 256 := by
  unfold pg
  rw [List.length_take, List.length_drop]
  omega
theorem pg_setAt {img l : List UInt8} {o p : Nat} (h : o + l.length ≤ img.length) (hx : o + l.length ≤ p * 256 ∨ p * 256 + 256 ≤ o) : pg (setAt img o l) p = pg img p := by
  apply List.ext_getElem?
  intro x
  rw [pg_get, pg_get]
  split
  · rw [setAt_get _ _ _ h, if_neg (by omega)]
  · rfl
theorem pg_setPage_same {img l : List UInt8} {p : Nat} (hl : l.length = 256) (h : p * 256 + 256 ≤ img.length) : pg (setPage img p l) p = l := by
  apply List.ext_getElem?
  intro x
  rw [pg_get]
  split
  · rw [show setPage img p l = setAt img (p * 256) l from rfl, setAt_get _ _ _ (by omega), if_pos (by omega), show p * 256 + x - p * 256 = x from by omega]
  · rw [List.getElem?_eq_none (by omega)]
theorem synced_cons (img : List UInt8) (x : Nat × List UInt8) (q : List (Nat × List UInt8)) : synced img (x :: q) = synced (setPage img x.1 x.2) q := rfl
theorem pg_synced {n p : Nat} : ∀ (q : List (Nat × List UInt8)) {img : List UInt8}, img.length = 256 * n → (∀ x ∈ q, x.1 < n ∧ x.2.length = 256) → (∀ x ∈ q, x.1 ≠ p) → pg (synced img q) p = pg img p
  | [], _, _, _, _ => rfl
  | x :: q, img, hl, hq, hp => by
    have h1 := hq x (by simp)
    have h2 := hp x (by simp)
    have hfit : x.1 * 256 + x.2.length ≤ img.length := by omega
    rw [synced_cons, pg_synced q (by rw [setPage_length hfit]; exact hl) (fun y hy => hq y (by simp [hy])) (fun y hy => hp y (by simp [hy]))]
    exact pg_setAt hfit (by omega)
theorem pg_sects {n p : Nat} {img : List UInt8} {p' : Nat} {data : List UInt8} {f : UInt8} (hl : img.length = 256 * n) (hp' : p' < n) (hd : data.length = 256) (hne : p' ≠ p) : ∀ k, k ≤ 4 → pg (sects img p' data f k) p = pg img p := by
  intro k
  induction k with
  | zero => intro _; rfl
  | succ k ih =>
    intro hk
    rw [sects_succ]
    have hsl := sects_length (img := img) (p := p') (data := data) (f := f) (k := k) (by omega) (by omega)
    unfold sect
    split
    · have hdl : ((data.drop (k * 64)).take 64).length = 64 := by rw [List.length_take, List.length_drop]; omega
      rw [pg_setAt (by rw [hsl, hdl]; omega) (by rw [hdl]; omega), ih (by omega)]
    · exact ih (by omega)
theorem pg_crashed {n p : Nat} : ∀ (q : List (Nat × List UInt8)) (fates : List UInt8) {img : List UInt8}, img.length = 256 * n → (∀ x ∈ q, x.1 < n ∧ x.2.length = 256) → (∀ x ∈ q, x.1 ≠ p) → pg (crashed img q fates) p = pg img p
  | [], _, _, _, _, _ => rfl
  | _ :: _, [], _, _, _, _ => rfl
  | x :: q, f :: fates, img, hl, hq, hp => by
    have h1 := hq x (by simp)
    have h2 := hp x (by simp)
    show pg (crashed (sects img x.1 x.2 f 4) q fates) p = _
    have hsl := sects_length (img := img) (p := x.1) (data := x.2) (f := f) (k := 4) (by omega) (by omega)
    rw [pg_crashed q fates (by rw [hsl]; exact hl) (fun y hy => hq y (by simp [hy])) (fun y hy => hp y (by simp [hy]))]
    exact pg_sects hl h1.1 h1.2 h2 4 (by omega)

/-! Truth values of one's own. -/
def OwnBools (w : World) (v : Value) (l : List Bool) : Prop := w.ownsRow 0 4 1 v l.length (l.map Value.bool)
def boolsThing (v : Value) (l : List Bool) : Thing := ⟨v.ownBlock.toList, fun w => OwnBools w v l, fun _ _ h hk => ownsRow_keep h (fun k hv => hk k (by simp [hv])), fun _ h k hk => (World.ownsRow.lt h k (by simpa using hk)).2⟩
theorem OwnBools.row {w : World} {g n cap : Nat} {l : List Bool} (h : OwnBools w (.slice (some ⟨g, 0, none⟩) n cap) l) :
    ∃ cur, w.heap[g]? = some (.cells cur 4 (0, 0)) ∧ n = l.length ∧ n ≤ cap ∧ cap ≤ maxLen ∧ cur.size = cap ∧ cur.toList.take n = l.map Value.bool := by
  rcases h.2 with ⟨h0, _⟩ | ⟨g', cap', cur, hv, _, hh, h1, h2, h3, h4⟩
  · cases h0
  · injection hv with e1 e2 e3
    injection e1 with e1
    injection e1 with e1 _
    subst e1 e2 e3
    exact ⟨cur, hh, rfl, h1, h2, by rw [h3, Nat.mul_one], by rw [← h4, Nat.mul_one]⟩
theorem OwnBools.cell {w : World} {g n cap : Nat} {l : List Bool} (h : OwnBools w (.slice (some ⟨g, 0, none⟩) n cap) l) (i : Nat) (hi : i < l.length) : w.cell? ⟨g, i, none⟩ = some (.bool l[i]) := by
  obtain ⟨cur, hh, hn, _, _, _, ht⟩ := h.row
  rw [cell_of_row w g i _ _ _ hh]
  have : (l.map Value.bool)[i]? = some (.bool l[i]) := by rw [List.getElem?_map, List.getElem?_eq_getElem hi]; rfl
  rw [← ht, List.getElem?_take] at this
  split at this
  · simpa using this
  · cases this
theorem OwnBools.free {w : World} {g n cap : Nat} {l : List Bool} (h : OwnBools w (.slice (some ⟨g, 0, none⟩) n cap) l) (i : Nat) : w.frozen? ⟨g, i, none⟩ = false := by
  obtain ⟨cur, hh, _⟩ := h.row
  exact frozen_of_row w g i _ _ hh
theorem OwnBools.set {w : World} {g n cap : Nat} {l : List Bool} (h : OwnBools w (.slice (some ⟨g, 0, none⟩) n cap) l) (i : Nat) (hi : i < l.length) (x : Bool) : OwnBools (w.setCell ⟨g, i, none⟩ (.bool x)) (.slice (some ⟨g, 0, none⟩) n cap) (l.set i x) := by
  obtain ⟨cur, hh, hn, h1, h2, h3, ht⟩ := h.row
  refine ⟨by simp, .inr ⟨g, cap, cur.setIfInBounds i (.bool x), by rw [List.length_set, hn], Nat.zero_le _, heap_setCell_same w g i _ _ _ hh, by rw [List.length_set]; omega, h2, by rw [Array.size_setIfInBounds, h3, Nat.mul_one], ?_⟩⟩
  rw [Nat.mul_one, List.length_set, Array.toList_setIfInBounds, List.map_set, ← ht, ← hn, List.take_set]
theorem info_bool : (Try.prog.info? 4).map (fun i => (i.zero, i.size, i.bytes)) = some (some (.bool false), 1, 1) := by kernel_rfl
theorem make_bools (w : World) (n : Nat) (hn : n ≤ 1048576) :
    (Instr.makeSlice 41 (.int .i64 n) (.int .i64 n)).run Try.prog w = .ok (.slice (some ⟨w.heap.size, 0, none⟩) n n) (w.alloc (.cells ((List.replicate n false).map Value.bool).toArray 4 (0, 0))) := by
  obtain ⟨i0, hi, hz0, hz1, hz2⟩ := info_parts info_bool
  have hmk := run_make (P := Try.prog) w 41 4 i0 _ Try.underlying41 hi hz0 .i64 .i64 (n : Int) (n : Int) (by omega) (by omega) (by rw [hz2]; omega) (by omega)
  have hz : madeCells (Value.bool false).cells (Int.toNat (n : Int) * i0.size) = ((List.replicate n false).map Value.bool).toArray := by
    rw [hz1, show (Value.bool false).cells = Array.replicate 1 (.bool false) from rfl, madeCells_same 1 _ _ (by omega)]
    simp only [List.map_replicate, Nat.mul_one, Int.toNat_natCast]
  rw [hz] at hmk
  simpa only [Int.toNat_natCast] using hmk
theorem own_bools (w : World) (n : Nat) (hn : n ≤ 1048576) : OwnBools (w.alloc (.cells ((List.replicate n false).map Value.bool).toArray 4 (0, 0))) (.slice (some ⟨w.heap.size, 0, none⟩) n n) (List.replicate n false) :=
  ⟨by simp, .inr ⟨w.heap.size, n, ((List.replicate n false).map Value.bool).toArray, by simp, Nat.zero_le _, heap_new_at rfl, by simp, by simp only [maxLen]; omega, by simp, by simp⟩⟩
end Go.Proofs.Ytbjffjplpnnhoaa
