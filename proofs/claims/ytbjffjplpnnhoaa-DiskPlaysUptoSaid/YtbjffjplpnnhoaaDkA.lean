/-
  The walks of package disk's small functions.
-/
import Derived.Test.YtbjffjplpnnhoaaDk
namespace Go.Proofs.Ytbjffjplpnnhoaa
set_option linter.unusedVariables false
set_option linter.unusedSimpArgs false
open Go.RowKit

theorem dHas_any {w : World} {b bp n cap : Nat} (page : Int) (hp : w.cell? ⟨b, 4, none⟩ = some (.slice (some ⟨bp, 0, none⟩) n cap)) :
    Calls Try.prog 38 #[.pointer (some ⟨b, 0, none⟩), .int .i64 page] w fun e w' => e = .returned (.bool (decide (0 ≤ page) && decide (page < n))) ∧ w = w' := by
  by_cases h : 0 ≤ page
  all_goals
    go_enter Try.func38, Try.ntmps38
    go_wp2
    go_ret
    exact ⟨by first | (simp [h]; done) | (simp; omega), rfl⟩

theorem dPages_any {w : World} {b bp n cap : Nat} (hp : w.cell? ⟨b, 4, none⟩ = some (.slice (some ⟨bp, 0, none⟩) n cap)) :
    Calls Try.prog 16 #[.pointer (some ⟨b, 0, none⟩)] w fun e w' => e = .returned (.int .i64 n) ∧ w = w' := by
  go_enter Try.func16, Try.ntmps16
  go_wp2
  go_ret
  exact ⟨rfl, rfl⟩
theorem dPower_any {w : World} {b : Nat} {d : Bool} (hp : w.cell? ⟨b, 8, none⟩ = some (.bool d)) :
    Calls Try.prog 20 #[.pointer (some ⟨b, 0, none⟩)] w fun e w' => e = .returned (.bool (!d)) ∧ w = w' := by
  go_enter Try.func20, Try.ntmps20
  go_wp2
  go_ret
  exact ⟨rfl, rfl⟩
theorem dEpoch_any {w : World} {b : Nat} {n : Int} (hp : w.cell? ⟨b, 9, none⟩ = some (.int .i64 n)) :
    Calls Try.prog 21 #[.pointer (some ⟨b, 0, none⟩)] w fun e w' => e = .returned (.int .i64 n) ∧ w = w' := by
  go_enter Try.func21, Try.ntmps21
  go_wp2
  go_ret
  exact ⟨rfl, rfl⟩
theorem dClaim_any {w : World} {b : Nat} {n : Int} (hp : w.cell? ⟨b, 9, none⟩ = some (.int .i64 n)) (hf : w.frozen? ⟨b, 9, none⟩ = false) :
    Calls Try.prog 65 #[.pointer (some ⟨b, 0, none⟩)] w fun e w' => e = .returned (.int .i64 (wrap64 (n + 1))) ∧ w' = w.setCell ⟨b, 9, none⟩ (.int .i64 (wrap64 (n + 1))) := by
  go_enter Try.func65, Try.ntmps65
  go_wp2
  go_ret
  exact ⟨rfl, rfl⟩
theorem dCounts_any {w : World} {b : Nat} {r wr s o : Int} (h0 : w.cell? ⟨b, 0, none⟩ = some (.int .i64 r)) (h1 : w.cell? ⟨b, 1, none⟩ = some (.int .i64 wr)) (h2 : w.cell? ⟨b, 2, none⟩ = some (.int .i64 s)) (h3 : w.cell? ⟨b, 3, none⟩ = some (.int .i64 o)) :
    Calls Try.prog 29 #[.pointer (some ⟨b, 0, none⟩)] w fun e w' => e = .returned (.agg #[.int .i64 r, .int .i64 wr, .int .i64 s, .int .i64 o]) ∧ Keeps [] w w' := by
  have l0 := World.block_lt_of_cell? w _ h0
  go_enter Try.func29, Try.ntmps29
  go_wp2_with fail
  go_region_held3 (fun w' => w'.cell? ⟨b, 0, none⟩ = some (.int .i64 r) ∧ w'.cell? ⟨b, 1, none⟩ = some (.int .i64 wr) ∧ w'.cell? ⟨b, 2, none⟩ = some (.int .i64 s) ∧ w'.cell? ⟨b, 3, none⟩ = some (.int .i64 o)) (go_keep) (fail)
  go_wp2
  exact bodyPost_ret (v := .agg #[.int .i64 r, .int .i64 wr, .int .i64 s, .int .i64 o]) (by simp [results, Try.results29, go_sem]) rfl ⟨rfl, ((Keeps.refl _ _).alloc _).drew⟩
theorem dAct_any {w : World} {b : Nat} {n : Int} {dd : Bool} (h7 : w.cell? ⟨b, 7, none⟩ = some (.int .i64 n)) (h8 : w.cell? ⟨b, 8, none⟩ = some (.bool dd)) (f7 : w.frozen? ⟨b, 7, none⟩ = false) (f8 : w.frozen? ⟨b, 8, none⟩ = false) (l0 : 0 ≤ n) (l1 : n ≤ 9223372036854775807) :
    Calls Try.prog 36 #[.pointer (some ⟨b, 0, none⟩)] w fun e w' => e = .returned (.int .i64 (if n = 1 then 2 else 0)) ∧ w' = if n = 0 then w else (w.setCell ⟨b, 7, none⟩ (.int .i64 (n - 1))).setCell ⟨b, 8, none⟩ (.bool (decide (n = 1))) := by
  by_cases h : n = 0
  · have h' : (n == 0) = true := by simp [h]
    subst h
    go_enter Try.func36, Try.ntmps36
    go_wp2
    go_ret
    exact ⟨rfl, rfl⟩
  · have h' : (n == 0) = false := by simp [h]
    by_cases h1 : n = 1
    · subst h1
      go_enter Try.func36, Try.ntmps36
      go_wp2
      go_ret
      exact ⟨rfl, rfl⟩
    · have h'' : (n - 1 == 0) = false := by simp; omega
      go_enter Try.func36, Try.ntmps36
      go_wp2
      go_ret
      exact ⟨by simp [h1], by simp [h, h1]⟩
theorem dClose_any {w : World} {b bm n : Nat} {f : Int → Option Int} {qv : Value} {o : Int} (h5 : w.cell? ⟨b, 5, none⟩ = some qv) (h6 : w.cell? ⟨b, 6, none⟩ = some (.map (some bm))) (h3 : w.cell? ⟨b, 3, none⟩ = some (.int .i64 o))
    (f5 : w.frozen? ⟨b, 5, none⟩ = false) (f3 : w.frozen? ⟨b, 3, none⟩ = false) (hm : IMap Try.prog w 3 bm n f) (hb : b ≠ bm) :
    Calls Try.prog 37 #[.pointer (some ⟨b, 0, none⟩)] w fun e w' => e = .returned (.tuple #[]) ∧ ∃ w1, (w.setCell ⟨b, 5, none⟩ (.slice none 0 0)).grownBy w1 (some bm) ∧ IMap Try.prog w1 3 bm 0 (fun _ => none) ∧ w' = w1.setCell ⟨b, 3, none⟩ (.int .i64 0) := by
  have hlt := World.block_lt_of_cell? w _ h3
  obtain ⟨w1, hrun, hmap, hg, hs⟩ := (IMap.keep (w' := w.setCell ⟨b, 5, none⟩ (.slice none 0 0)) hm (Below.heap_setCell _ _ _ _ (Ne.symm hb))).clear (tm := 62) Try.underlying62
  have g3 : w1.cell? ⟨b, 3, none⟩ = some (.int .i64 o) := by
    rw [hg.cell_far _ (by simpa using hlt) (by simpa using hb), cell_set_off _ (by omega)]; exact h3
  have k3 : w1.frozen? ⟨b, 3, none⟩ = false := by
    rw [hg.frozen_far _ (by simpa using hlt) (by simpa using hb)]; simpa using f3
  have HG := Lib.hid hg
  have HM := Lib.hid hmap
  clear hm hs hg hmap
  go_enter Try.func37, Try.ntmps37
  go_wp2_with fail
  go_end0
  exact ⟨rfl, w1, HG.out, HM.out, rfl⟩

theorem dArm_any {w : World} {b : Nat} {n : Int} {dd : Bool} {o : Int} (h7 : w.cell? ⟨b, 7, none⟩ = some (.int .i64 o)) (h8 : w.cell? ⟨b, 8, none⟩ = some (.bool dd)) (f7 : w.frozen? ⟨b, 7, none⟩ = false) :
    Calls Try.prog 27 #[.pointer (some ⟨b, 0, none⟩), .int .i64 n] w fun e w' => e = .returned (.tuple #[]) ∧ w' = if dd then w else w.setCell ⟨b, 7, none⟩ (.int .i64 (max n 0)) := by
  cases dd
  · go_enter Try.func27, Try.ntmps27
    go_wp2_with fail
    all_goals go_end0
    · exact ⟨rfl, by rw [show max n 0 = 0 from by omega]⟩
    · exact ⟨rfl, by rw [show max n 0 = n from by omega]⟩
  · go_enter Try.func27, Try.ntmps27
    go_wp2_with fail
    go_end0
    exact ⟨rfl, rfl⟩
theorem dNew_no {w : World} (n : Int) (h : n < 3 ∨ 4096 < n) :
    Calls Try.prog 35 #[.int .i64 n] w fun e w' => e = .returned (.tuple #[.pointer none, .int .i64 40]) ∧ w = w' := by
  rcases h with h | h
  · go_enter Try.func35, Try.ntmps35
    go_wp2
    go_ret2
    exact ⟨rfl, rfl⟩
  · have h' : ¬ n < 3 := by omega
    go_enter Try.func35, Try.ntmps35
    go_wp2
    go_ret2
    exact ⟨rfl, rfl⟩
theorem dNew_yes {w : World} (n : Nat) (h : 3 ≤ n) (h2 : n ≤ 4096) :
    Calls Try.prog 35 #[.int .i64 n] w fun e w' => e = .returned (.tuple #[.pointer (some ⟨w.heap.size + 2, 0, none⟩), .int .i64 0]) ∧ Keeps [] w w' ∧ ∃ F, DiskAt w' (w.heap.size + 2) (D.new n) F ∧ From w [] F := by
  have h' : ¬ (n : Int) < 3 := by omega
  have h2' : ¬ 4096 < (n : Int) := by omega
  have hmm := @run_makeMap Try.prog
  obtain ⟨i, hi, hz0, hz1, hz2⟩ := info_parts info_page
  have hmk := run_make (P := Try.prog) w 60 84 i _ Try.underlying60 hi hz0 .i64 .i64 n n (by omega) (Int.le_refl _) (by rw [hz2]; omega) (by omega)
  simp only [zPage, Value.cells, hz1, Int.toNat_natCast, madeCells_same 256 _ _ (by omega)] at hmk
  obtain ⟨Z, hZ⟩ : ∃ Z, Z = (List.replicate (n * 256) (Value.int .u8 0)).toArray := ⟨_, rfl⟩
  rw [← hZ] at hmk
  have HZ := Lib.hid hZ
  have HI := Lib.hid hi
  clear hi hz0 hz1 hz2 hZ
  go_enter Try.func35, Try.ntmps35
  go_wp2_with fail
  go_ret2
  refine ⟨rfl, (((Keeps.refl _ _).alloc _).alloc _).alloc _, [w.heap.size + 2, w.heap.size, w.heap.size + 1], ⟨w.heap.size, .slice none 0 0, w.heap.size + 1, ⟨?_, ?_, ?_, ?_, ?_⟩, rfl⟩, ?_⟩
  · exact ⟨h, h2, by simp [D.new], by simp [D.new], by simp [D.new], by simp [D.new]⟩
  · exact heap_new_at (by simp)
  · rw [heap_old_at (by simp; omega), heap_old_at (by simp), heap_new_at rfl, HZ.out]
    simp [D.new, B, Nat.mul_comm]
  · exact World.ownsRow_nil _ _ _ _
  · refine IMap_empty 0 rfl ?_
    rw [heap_old_at (by simp), heap_new_at (by simp)]
  · intro k hk
    simp only [List.mem_cons, List.not_mem_nil, or_false] at hk
    omega
end Go.Proofs.Ytbjffjplpnnhoaa
