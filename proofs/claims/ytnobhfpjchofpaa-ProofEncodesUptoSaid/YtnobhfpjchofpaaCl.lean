/-
  Package proof: the walk of Decode, a theorem a way.
-/
import Derived.Test.YtnobhfpjchofpaaCk
namespace Go.Proofs.Ytnobhfpjchofpaa
set_option linter.unusedVariables false
set_option linter.unusedSimpArgs false
open Go.RowKit

def pf0 : Pf := ⟨false, [], zero32, []⟩
/-- The answer is no. -/
def AnsNo (l : List UInt8) : Prop := ∀ (w : World) (rb pb N : Nat) (_ : Rd w rb N l false) (_ : N ≤ rb) (_ : N ≤ pb) (_ : pb ≠ rb) (_ : w.heap[pb]? = some (.cells (pfCells pf0 (.slice none 0 0) (.slice none 0 0)).toArray 30 (0, 0))),
  Calls Try.prog 22 #[.pointer (some ⟨rb, 0, none⟩), .pointer (some ⟨pb, 0, none⟩)] w fun e w' => e = .returned (.bool false) ∧ Keeps [rb, pb] w w'
/-- The answer is yes, and this is left. -/
def AnsYes (l : List UInt8) (f : Bool) (v t : List UInt8) : Prop := ∀ (w : World) (rb pb N : Nat) (_ : Rd w rb N l false) (_ : N ≤ rb) (_ : N ≤ pb) (_ : pb ≠ rb) (_ : w.heap[pb]? = some (.cells (pfCells pf0 (.slice none 0 0) (.slice none 0 0)).toArray 30 (0, 0))),
  Calls Try.prog 22 #[.pointer (some ⟨rb, 0, none⟩), .pointer (some ⟨pb, 0, none⟩)] w fun e w' => e = .returned (.bool true) ∧ Rd w' rb N t false ∧ ∃ vv, w'.heap[pb]? = some (.cells (pfCells ⟨f, v, zero32, []⟩ vv (.slice none 0 0)).toArray 30 (0, 0)) ∧ OwnB w' vv v ∧ (∀ k, vv.ownBlock = some k → N ≤ k ∧ k ≠ pb ∧ k ≠ rb) ∧ Keeps [rb, pb] w w'
theorem ansNo_nil : AnsNo [] := fun _ _ _ _ h1 h2 h3 h4 h5 => ans_nil h1 h2 h3 h4 h5
theorem ansNo_other {m : UInt8} {r : List UInt8} (hm0 : m ≠ 0) (hm1 : m ≠ 1) : AnsNo (m :: r) := fun _ _ _ _ h1 h2 h3 h4 h5 => ans_other h1 hm0 hm1 h2 h3 h4 h5
theorem ansNo_cut {r : List UInt8} (h : r.length < 2) : AnsNo (1 :: r) := fun _ _ _ _ h1 h2 h3 h4 h5 => ans_cut h1 h h2 h3 h4 h5
theorem ansNo_big {x y : UInt8} {t : List UInt8} (h : 128 < x.toNat + 256 * y.toNat) : AnsNo (1 :: x :: y :: t) := fun _ _ _ _ h1 h2 h3 h4 h5 => ans_big h1 rfl h h2 h3 h4 h5
theorem ansNo_short {x y : UInt8} {t : List UInt8} (hb : x.toNat + 256 * y.toNat ≤ 128) (h : t.length < x.toNat + 256 * y.toNat) : AnsNo (1 :: x :: y :: t) := fun _ _ _ _ h1 h2 h3 h4 h5 => ans_short h1 rfl hb h h2 h3 h4 h5
theorem ansYes_zero {r : List UInt8} : AnsYes (0 :: r) false [] r := fun _ _ _ _ h1 h2 h3 h4 h5 => (ans_zero h1 h2 h3 h4 h5).mono fun e w' ⟨a, b, c, d⟩ => ⟨a, b, .slice none 0 0, c, World.ownsRow_nil _ _ _ _, by simp [Value.ownBlock], d⟩
theorem ansYes_full {x y : UInt8} {t : List UInt8} {n : Nat} (hn : n = x.toNat + 256 * y.toNat) (hb : n ≤ 128) (h : n ≤ t.length) : AnsYes (1 :: x :: y :: t) true (t.take n) (t.drop n) := fun _ _ _ _ h1 h2 h3 h4 h5 => ans_full h1 hn hb h h2 h3 h4 h5

theorem built_zero : Try.prog.built 30 [] = some (pfCells pf0 (.slice none 0 0) (.slice none 0 0)).toArray := by kernel_rfl
theorem run_build_zero (w : World) : (Instr.build 30 #[]).run Try.prog w = .ok (.agg (pfCells pf0 (.slice none 0 0) (.slice none 0 0)).toArray) w := run_build w _ _ _ built_zero
theorem results_pf2 {fn : Func} {tmps : Array Value} {w : World} {s s2 b : Nat} {cs : List Value} {u : Value} (h : fn.results = #[.cell s 30, .tmp s2]) (hv : tmps.getD s undef = .pointer (some ⟨b, 0, none⟩)) (hu : tmps.getD s2 undef = u) (hr : w.rangeAt b 0 cs) (hl : cs.length = 35) :
    (results fn tmps).run Try.prog w = .ok (.tuple #[.agg cs.toArray, u]) w := by
  have h1 := run_loadVar_mid w b 0 30 cs _ hr Try.underlying30 rfl (by rw [size_proof, hl])
  simp only [Array.getD_eq_getD_getElem?] at hv hu
  simp [results, h, hv, hu, h1, asAddr]
theorem elem_lt {w : World} {v : Value} {l : List UInt8} (h : BytesAt w v l) {k : Nat} (hk : v.elemBlock = some k) : k < w.heap.size := by
  rcases h with ⟨rfl, a, c, rfl, _⟩ | ⟨g, o, cap, rfl, _, _, h3, _⟩
  · cases a <;> simp [Value.elemBlock] at hk
  · unfold Value.elemBlock at hk
    split at hk
    · rename_i e; injection e with e1 _ _; injection e1 with e1; subst e1; injection hk with hk; have hk : g = k := hk; omega
    · cases hk

set_option maxRecDepth 100000 in
set_option maxHeartbeats 1600000 in
theorem decode_bad {w : World} {v : Value} {l : List UInt8} (hv : BytesAt w v l) (hA : AnsNo l) :
    Calls Try.prog 13 #[v] w fun e w' => ∃ u, e = .returned (.tuple #[u, .int .i64 120]) ∧ PfIn w' u pf0 ∧ Keeps [] w w' := by
  obtain ⟨a, c, rfl, hc, hm⟩ := hv.form
  obtain ⟨Z, hZ⟩ : ∃ Z, Z = (pfCells pf0 (.slice none 0 0) (.slice none 0 0)) := ⟨_, rfl⟩
  have hal := fun (w : World) => run_alloc (P := Try.prog) w info_proof
  rw [zProof_cells, show (⟨false, [], List.replicate 32 0, []⟩ : Pf) = pf0 from rfl, ← hZ] at hal
  obtain ⟨w0, hw0⟩ : ∃ w0, w0 = ((w.alloc (.cells Z.toArray 30 (0, 0))).alloc (.cells Z.toArray 30 (0, 0))).alloc (.cells #[.slice a l.length c, .bool false] 53 (0, 0)) := ⟨_, rfl⟩
  have x0 : w0.heap[w.heap.size]? = some (.cells Z.toArray 30 (0, 0)) := by rw [hw0, heap_old_at (by simp; omega), heap_old_at (by simp), heap_new_at rfl]
  have x1 : w0.heap[w.heap.size + 1]? = some (.cells Z.toArray 30 (0, 0)) := by rw [hw0, heap_old_at (by simp), heap_new_at (by simp)]
  have x2 : RdAt w0 (w.heap.size + 2) (.slice a l.length c) false := by unfold RdAt; rw [hw0, heap_new_at (by simp)]
  have K0 : Keeps [] w w0 := by rw [hw0]; exact (((Keeps.refl _ _).alloc _).alloc _).alloc _
  have s1 : (w.alloc (.cells Z.toArray 30 (0, 0))).heap.size = w.heap.size + 1 := by simp
  have s2 : ((w.alloc (.cells Z.toArray 30 (0, 0))).alloc (.cells Z.toArray 30 (0, 0))).heap.size = w.heap.size + 2 := by simp
  have hRd : Rd w0 (w.heap.size + 2) (w.heap.size + 1) l false := ⟨a, c, x2, hv.keeps K0 (by simp), fun k hk => by have := elem_lt hv hk; omega, hm⟩
  have hzl : Z.length = 35 := by rw [hZ]; exact pf_length (by simp [pf0, zero32]) _ _
  have hz1 : ∀ v ∈ Z, v.oneCell' = true := by rw [hZ]; exact pf_ones
  have hbz := run_build_zero
  rw [← hZ] at hbz
  have HBZ := Lib.hid hbz
  have cA := hA _ _ _ _ hRd (by omega) (by omega) (by omega) (hZ ▸ x1)
  have CA := Lib.hid cA
  have HZ := Lib.hid hZ
  have HAL := Lib.hid hal
  have HW := Lib.hid hw0
  have S12 := Lib.hid (And.intro s1 s2)
  have X0 := Lib.hid x0
  have HZL := Lib.hid hzl
  have HZ1 := Lib.hid hz1
  have y0 := lt_of_heap x0
  clear hZ hal hw0 x1 x2 s1 s2 hRd hv hA cA hzl hz1 hbz x0
  go_enter Try.func13, Try.ntmps13
  go_wp2_with (refine wl_alloc rfl 30 rfl ?_; refine ⟨_, _, HAL.out _, ?_⟩; try simp only [Act.put, List.setIfInBounds_toArray, List.set_cons_zero, List.set_cons_succ, List.getElem_toArray, List.getElem_cons_zero, List.getElem_cons_succ])
  rw [S12.out.1, show w.heap.size + 1 + 1 = w.heap.size + 2 from rfl, ← HW.out]
  refine CA.out.mono ?_
  rintro e w1 ⟨rfl, hk1⟩
  have K1 := (K0.trans (G := [w.heap.size + 2, w.heap.size + 1]) hk1 (fun k hk => .inr (by simp at hk; omega)))
  have hz := (hk1.block _ y0 (by simp)).trans X0.out
  have hst := run_store_pf hz HZL.out HZL.out HZ1.out
  have hall := store_all (cs := Z) hz rfl
  have HST := Lib.hid hst
  have HALL := Lib.hid hall
  clear hst hall
  go_wp2_with (first | (refine wl_build rfl 30 #[] #[] rfl (by simp [Act.eval]) ?_; refine ⟨_, _, HBZ.out _, ?_⟩; try simp only [Act.put, List.setIfInBounds_toArray, List.set_cons_zero, List.set_cons_succ, List.getElem_toArray, List.getElem_cons_zero, List.getElem_cons_succ]) | (refine wl_store rfl 30 (.tmp 2) (.tmp 13) rfl ?_; refine ⟨_, HST.out, ?_⟩; try simp only [Act.put, List.setIfInBounds_toArray, List.set_cons_zero, List.set_cons_succ, List.getElem_toArray, List.getElem_cons_zero, List.getElem_cons_succ]))
  refine bodyPost_ret (results_pf2 (b := w.heap.size) rfl rfl rfl (rangeAt_all HALL.out) HZL.out) rfl ⟨_, rfl, ⟨_, _, by rw [HZ.out], BytesAt_nil _, .inl ⟨rfl, none, 0, rfl, by simp [maxLen]⟩, by simp [pf0, zero32], by simp [pf0]⟩, K1.setCells (.inr (Nat.le_refl _)) 0 _⟩
set_option maxRecDepth 100000 in
set_option maxHeartbeats 1600000 in
theorem decode_short {w : World} {v : Value} {l : List UInt8} (hv : BytesAt w v l) {f : Bool} {x t : List UInt8} (hA : AnsYes l f x t) (hl : t.length < 32) :
    Calls Try.prog 13 #[v] w fun e w' => ∃ u, e = .returned (.tuple #[u, .int .i64 120]) ∧ PfIn w' u pf0 ∧ Keeps [] w w' := by
  obtain ⟨a, c, rfl, hc, hm⟩ := hv.form
  obtain ⟨Z, hZ⟩ : ∃ Z, Z = (pfCells pf0 (.slice none 0 0) (.slice none 0 0)) := ⟨_, rfl⟩
  have hal := fun (w : World) => run_alloc (P := Try.prog) w info_proof
  rw [zProof_cells, show (⟨false, [], List.replicate 32 0, []⟩ : Pf) = pf0 from rfl, ← hZ] at hal
  obtain ⟨w0, hw0⟩ : ∃ w0, w0 = ((w.alloc (.cells Z.toArray 30 (0, 0))).alloc (.cells Z.toArray 30 (0, 0))).alloc (.cells #[.slice a l.length c, .bool false] 53 (0, 0)) := ⟨_, rfl⟩
  have x0 : w0.heap[w.heap.size]? = some (.cells Z.toArray 30 (0, 0)) := by rw [hw0, heap_old_at (by simp; omega), heap_old_at (by simp), heap_new_at rfl]
  have x1 : w0.heap[w.heap.size + 1]? = some (.cells Z.toArray 30 (0, 0)) := by rw [hw0, heap_old_at (by simp), heap_new_at (by simp)]
  have x2 : RdAt w0 (w.heap.size + 2) (.slice a l.length c) false := by unfold RdAt; rw [hw0, heap_new_at (by simp)]
  have K0 : Keeps [] w w0 := by rw [hw0]; exact (((Keeps.refl _ _).alloc _).alloc _).alloc _
  have s1 : (w.alloc (.cells Z.toArray 30 (0, 0))).heap.size = w.heap.size + 1 := by simp
  have s2 : ((w.alloc (.cells Z.toArray 30 (0, 0))).alloc (.cells Z.toArray 30 (0, 0))).heap.size = w.heap.size + 2 := by simp
  have hRd : Rd w0 (w.heap.size + 2) (w.heap.size + 1) l false := ⟨a, c, x2, hv.keeps K0 (by simp), fun k hk => by have := elem_lt hv hk; omega, hm⟩
  have hzl : Z.length = 35 := by rw [hZ]; exact pf_length (by simp [pf0, zero32]) _ _
  have hz1 : ∀ v ∈ Z, v.oneCell' = true := by rw [hZ]; exact pf_ones
  have hbz := run_build_zero
  rw [← hZ] at hbz
  have HBZ := Lib.hid hbz
  have cA := hA _ _ _ _ hRd (by omega) (by omega) (by omega) (hZ ▸ x1)
  have CA := Lib.hid cA
  have HZ := Lib.hid hZ
  have HAL := Lib.hid hal
  have HW := Lib.hid hw0
  have S12 := Lib.hid (And.intro s1 s2)
  have X0 := Lib.hid x0
  have HZL := Lib.hid hzl
  have HZ1 := Lib.hid hz1
  have y0 := lt_of_heap x0
  clear hZ hal hw0 x1 x2 s1 s2 hRd hv hA cA hzl hz1 hbz x0
  go_enter Try.func13, Try.ntmps13
  go_wp2_with (refine wl_alloc rfl 30 rfl ?_; refine ⟨_, _, HAL.out _, ?_⟩; try simp only [Act.put, List.setIfInBounds_toArray, List.set_cons_zero, List.set_cons_succ, List.getElem_toArray, List.getElem_cons_zero, List.getElem_cons_succ])
  rw [S12.out.1, show w.heap.size + 1 + 1 = w.heap.size + 2 from rfl, ← HW.out]
  refine CA.out.mono ?_
  rintro e w1 ⟨rfl, hR, vv, hp1, hO, hvb, hk1⟩
  have K1 := (K0.trans (G := [w.heap.size + 2, w.heap.size + 1]) hk1 (fun k hk => .inr (by simp at hk; omega)))
  have hz := (hk1.block _ y0 (by simp)).trans X0.out
  have HZB := Lib.hid hz
  have HR := Lib.hid hR
  have HP1 := Lib.hid hp1
  have HO := Lib.hid hO
  have HVB := Lib.hid hvb
  have y1 := lt_of_heap hz
  have y2 := lt_of_heap hp1
  obtain ⟨av, cv, rfl⟩ := ownB_slice hO
  clear hz hR hp1 hO hvb
  go_wp2_with fail
  refine wp_region_held_drew (S := (fun w' => Keeps [] w1 w' ∨ Keeps [w.heap.size + 2, w.heap.size + 1] w1 w')) (by kernel_rfl) ?_ (fun hHeld => ?_)
  · exact .inl (Keeps.refl _ _).drew
  refine' wpAnyH_take (i := 0) (v := _) rfl (by kernel_rfl) (by kernel_rfl) (by kernel_rfl) (fun _ _ _ h => h) (Or.inl ⟨by rfl, ?_⟩) (by assumption) ?_
  rotate_left 1
  · (intro w0 hSw; (try dsimp only at hSw); go_split_ands; go_simp; (try with_reducible rfl))
  try simp only [Act.put, List.setIfInBounds_toArray, List.set_cons_zero, List.set_cons_succ, List.getElem_toArray, List.getElem_cons_zero, List.getElem_cons_succ]
  refine' wpAnyH_take (i := 1) (v := _) rfl (by kernel_rfl) (by kernel_rfl) (by kernel_rfl) (fun _ _ _ h => h) (Or.inl ⟨by rfl, ?_⟩) (by assumption) ?_
  rotate_left 1
  · (intro w0 hSw; (try dsimp only at hSw); go_split_ands; go_simp; (try with_reducible rfl))
  try simp only [Act.put, List.setIfInBounds_toArray, List.set_cons_zero, List.set_cons_succ, List.getElem_toArray, List.getElem_cons_zero, List.getElem_cons_succ]
  refine' wpAnyH_take (i := 2) (v := _) rfl (by kernel_rfl) (by kernel_rfl) (by kernel_rfl) (fun _ _ _ h => h) (Or.inl ⟨by rfl, ?_⟩) (by assumption) ?_
  rotate_left 1
  · (intro w0 hSw; (try dsimp only at hSw); go_split_ands; go_simp; (try with_reducible rfl))
  try simp only [Act.put, List.setIfInBounds_toArray, List.set_cons_zero, List.set_cons_succ, List.getElem_toArray, List.getElem_cons_zero, List.getElem_cons_succ]
  refine wpAnyH_ready (rs := [3]) (by kernel_rfl) (by simp) ?_
  refine AllReadyH.cons rfl (fun K hK => ?_) AllReadyH.nil
  go_simp
  refine (take_no (HR.out.keeps (F := []) (Keeps.refl _ _).drew (by simp) (by simp)) 32 hl (by omega)).mono ?_
  rintro e w2 ⟨rfl, hR2, hk2⟩
  have hk12 : Keeps [w.heap.size + 2] w1 w2 := ((Keeps.refl _ _).drew).trans hk2 (by simp)
  refine hK.out _ _ ?_ (fun hHeld => ?_)
  · exact .inr (hk12.mono (fun k hk => .inl (by simp at hk; simp [hk])))
  clear hK K
  try simp only [Act.put, List.setIfInBounds_toArray, List.set_cons_zero, List.set_cons_succ, List.getElem_toArray, List.getElem_cons_zero, List.getElem_cons_succ]
  have HR2 := Lib.hid hR2
  clear hR2
  have hcp : ∀ ty, (Builtin.copy_ #[26, 26] ty #[.slice (some ⟨w.heap.size + 1, 2, none⟩) 32 32, .slice none 0 0]).run Try.prog w2 = .ok (.int .i64 0) w2 := fun ty => run_copy_nil (P := Try.prog) w2 26 26 ty 5 _ 32 32 Try.underlying26 (by kernel_rfl)
  have HCP := Lib.hid hcp
  clear hcp
  refine wpAnyH_ready (rs := [4]) (by kernel_rfl) (by simp) ?_
  refine AllReadyH.cons rfl (fun K hK => ?_) AllReadyH.nil
  refine step_copy rfl (.tmp 15) (.tmp 17) rfl _ _ _ (by rfl) (by rfl) HCP.out ?_
  refine hK.out _ _ ?_ (fun hHeld => ?_)
  · exact .inr (hk12.mono (fun k hk => .inl (by simp at hk; simp [hk])))
  clear hK K
  try simp only [Act.put, List.setIfInBounds_toArray, List.set_cons_zero, List.set_cons_succ, List.getElem_toArray, List.getElem_cons_zero, List.getElem_cons_succ]
  refine wpAnyH_done (by kernel_rfl) ?_ _
  have hp2 := (hk12.block _ y2 (by simp)).trans HP1.out
  have hz2 := (hk12.block _ y1 (by simp)).trans HZB.out
  have hrr := pf_bits hp2 (by simp [zero32])
  have y3 := lt_of_heap hz2
  have hsh := HR2.out.sh
  have HSH := Lib.hid hsh
  have HRR := Lib.hid hrr
  have HSZ := Lib.hid (size_32_of (l := zero32) (by simp [zero32]))
  have HZ2 := Lib.hid hz2
  clear hp2 hz2 hrr hsh
  go_wp2_with (refine wpList_load_mid rfl 27 (.tmp 19) rfl (w.heap.size + 1) 2 (by rfl) (zero32.map B) _ HRR.out Try.underlying27 rfl HSZ.out ?_)
  refine (ones_any zero32 (by simp [zero32])).mono ?_
  rintro e w3 ⟨rfl, hk3⟩
  have hsh3 := (hk3.block _ HR2.out.lt (by simp))
  have hs3 : w3.cell? ⟨w.heap.size + 2, 1, none⟩ = some (.bool true) := (World.cell?_of_block (a := ⟨w.heap.size + 2, 1, none⟩) hsh3).trans HSH.out
  have hz3 := (hk3.block _ y3 (by simp)).trans HZ2.out
  have K3 := (K1.trans hk12 (fun k hk => .inr (by simp at hk; omega))).trans (G := []) hk3 (by simp)
  clear hsh3
  have hst := run_store_pf hz3 HZL.out HZL.out HZ1.out
  have hall := store_all (cs := Z) hz3 rfl
  have HST := Lib.hid hst
  have HALL := Lib.hid hall
  clear hst hall
  go_wp2_with (first | (refine wl_build rfl 30 #[] #[] rfl (by simp [Act.eval]) ?_; refine ⟨_, _, HBZ.out _, ?_⟩; try simp only [Act.put, List.setIfInBounds_toArray, List.set_cons_zero, List.set_cons_succ, List.getElem_toArray, List.getElem_cons_zero, List.getElem_cons_succ]) | (refine wl_store rfl 30 (.tmp 2) (.tmp 36) rfl ?_; refine ⟨_, HST.out, ?_⟩; try simp only [Act.put, List.setIfInBounds_toArray, List.set_cons_zero, List.set_cons_succ, List.getElem_toArray, List.getElem_cons_zero, List.getElem_cons_succ]))
  refine bodyPost_ret (results_pf2 (b := w.heap.size) rfl rfl rfl (rangeAt_all HALL.out) HZL.out) rfl ⟨_, rfl, ⟨_, _, by rw [HZ.out], BytesAt_nil _, .inl ⟨rfl, none, 0, rfl, by simp [maxLen]⟩, by simp [pf0, zero32], by simp [pf0]⟩, K3.setCells (.inr (Nat.le_refl _)) 0 _⟩
theorem pf_setbits {p : Pf} (hp : p.bits.length = 32) {bs : List UInt8} (hb : bs.length = 32) (vv sv : Value) : (pfCells p vv sv).take 2 ++ bs.map B ++ (pfCells p vv sv).drop (2 + (bs.map B).length) = pfCells ⟨p.found, p.val, bs, p.sums⟩ vv sv := by
  have e : (pfCells p vv sv).drop (2 + (bs.map B).length) = [sv] := by
    rw [List.length_map, hb, pfCells, show 2 + 32 = 32 + 1 + 1 from rfl, List.drop_succ_cons, List.drop_succ_cons, List.drop_append_of_le_length (by rw [List.length_map, hp]; exact Nat.le_refl _), List.drop_of_length_le (by rw [List.length_map, hp]; exact Nat.le_refl _)]
    rfl
  rw [e]
  simp [pfCells]

set_option maxRecDepth 100000 in
set_option maxHeartbeats 1600000 in
theorem decode_odd {w : World} {v : Value} {l : List UInt8} (hv : BytesAt w v l) {f : Bool} {x t : List UInt8} (hA : AnsYes l f x t) (hl : 32 ≤ t.length) (hq : (t.drop 32).length ≠ 32 * onesOf (t.take 32)) :
    Calls Try.prog 13 #[v] w fun e w' => ∃ u, e = .returned (.tuple #[u, .int .i64 120]) ∧ PfIn w' u pf0 ∧ Keeps [] w w' := by
  have rest : ∀ (m : Nat) {bs s : List UInt8}, bs = t.take 32 → s = t.drop 32 → m = onesOf bs → ((s.length : Int) != (m : Int) * 32) = true := by
    rintro m bs s rfl rfl rfl
    simp only [bne_iff_ne, ne_eq]
    intro e
    exact hq (by omega)
  obtain ⟨a, c, rfl, hc, hm⟩ := hv.form
  obtain ⟨Z, hZ⟩ : ∃ Z, Z = (pfCells pf0 (.slice none 0 0) (.slice none 0 0)) := ⟨_, rfl⟩
  have hal := fun (w : World) => run_alloc (P := Try.prog) w info_proof
  rw [zProof_cells, show (⟨false, [], List.replicate 32 0, []⟩ : Pf) = pf0 from rfl, ← hZ] at hal
  obtain ⟨w0, hw0⟩ : ∃ w0, w0 = ((w.alloc (.cells Z.toArray 30 (0, 0))).alloc (.cells Z.toArray 30 (0, 0))).alloc (.cells #[.slice a l.length c, .bool false] 53 (0, 0)) := ⟨_, rfl⟩
  have x0 : w0.heap[w.heap.size]? = some (.cells Z.toArray 30 (0, 0)) := by rw [hw0, heap_old_at (by simp; omega), heap_old_at (by simp), heap_new_at rfl]
  have x1 : w0.heap[w.heap.size + 1]? = some (.cells Z.toArray 30 (0, 0)) := by rw [hw0, heap_old_at (by simp), heap_new_at (by simp)]
  have x2 : RdAt w0 (w.heap.size + 2) (.slice a l.length c) false := by unfold RdAt; rw [hw0, heap_new_at (by simp)]
  have K0 : Keeps [] w w0 := by rw [hw0]; exact (((Keeps.refl _ _).alloc _).alloc _).alloc _
  have s1 : (w.alloc (.cells Z.toArray 30 (0, 0))).heap.size = w.heap.size + 1 := by simp
  have s2 : ((w.alloc (.cells Z.toArray 30 (0, 0))).alloc (.cells Z.toArray 30 (0, 0))).heap.size = w.heap.size + 2 := by simp
  have hRd : Rd w0 (w.heap.size + 2) (w.heap.size + 1) l false := ⟨a, c, x2, hv.keeps K0 (by simp), fun k hk => by have := elem_lt hv hk; omega, hm⟩
  have hzl : Z.length = 35 := by rw [hZ]; exact pf_length (by simp [pf0, zero32]) _ _
  have hz1 : ∀ v ∈ Z, v.oneCell' = true := by rw [hZ]; exact pf_ones
  have hbz := run_build_zero
  rw [← hZ] at hbz
  have HBZ := Lib.hid hbz
  have cA := hA _ _ _ _ hRd (by omega) (by omega) (by omega) (hZ ▸ x1)
  have CA := Lib.hid cA
  have HZ := Lib.hid hZ
  have HAL := Lib.hid hal
  have HW := Lib.hid hw0
  have S12 := Lib.hid (And.intro s1 s2)
  have X0 := Lib.hid x0
  have HZL := Lib.hid hzl
  have HZ1 := Lib.hid hz1
  have y0 := lt_of_heap x0
  clear hZ hal hw0 x1 x2 s1 s2 hRd hv hA cA hzl hz1 hbz x0
  go_enter Try.func13, Try.ntmps13
  go_wp2_with (refine wl_alloc rfl 30 rfl ?_; refine ⟨_, _, HAL.out _, ?_⟩; try simp only [Act.put, List.setIfInBounds_toArray, List.set_cons_zero, List.set_cons_succ, List.getElem_toArray, List.getElem_cons_zero, List.getElem_cons_succ])
  rw [S12.out.1, show w.heap.size + 1 + 1 = w.heap.size + 2 from rfl, ← HW.out]
  refine CA.out.mono ?_
  rintro e w1 ⟨rfl, hR, vv, hp1, hO, hvb, hk1⟩
  have K1 := (K0.trans (G := [w.heap.size + 2, w.heap.size + 1]) hk1 (fun k hk => .inr (by simp at hk; omega)))
  have hz := (hk1.block _ y0 (by simp)).trans X0.out
  have HZB := Lib.hid hz
  have HR := Lib.hid hR
  have HP1 := Lib.hid hp1
  have HO := Lib.hid hO
  have HVB := Lib.hid hvb
  have y1 := lt_of_heap hz
  have y2 := lt_of_heap hp1
  obtain ⟨av, cv, rfl⟩ := ownB_slice hO
  clear hz hR hp1 hO hvb
  go_wp2_with fail
  refine wp_region_held_drew (S := (fun w' => Keeps [] w1 w' ∨ Keeps [w.heap.size + 2, w.heap.size + 1] w1 w')) (by kernel_rfl) ?_ (fun hHeld => ?_)
  · exact .inl (Keeps.refl _ _).drew
  refine' wpAnyH_take (i := 0) (v := _) rfl (by kernel_rfl) (by kernel_rfl) (by kernel_rfl) (fun _ _ _ h => h) (Or.inl ⟨by rfl, ?_⟩) (by assumption) ?_
  rotate_left 1
  · (intro w0 hSw; (try dsimp only at hSw); go_split_ands; go_simp; (try with_reducible rfl))
  try simp only [Act.put, List.setIfInBounds_toArray, List.set_cons_zero, List.set_cons_succ, List.getElem_toArray, List.getElem_cons_zero, List.getElem_cons_succ]
  refine' wpAnyH_take (i := 1) (v := _) rfl (by kernel_rfl) (by kernel_rfl) (by kernel_rfl) (fun _ _ _ h => h) (Or.inl ⟨by rfl, ?_⟩) (by assumption) ?_
  rotate_left 1
  · (intro w0 hSw; (try dsimp only at hSw); go_split_ands; go_simp; (try with_reducible rfl))
  try simp only [Act.put, List.setIfInBounds_toArray, List.set_cons_zero, List.set_cons_succ, List.getElem_toArray, List.getElem_cons_zero, List.getElem_cons_succ]
  refine' wpAnyH_take (i := 2) (v := _) rfl (by kernel_rfl) (by kernel_rfl) (by kernel_rfl) (fun _ _ _ h => h) (Or.inl ⟨by rfl, ?_⟩) (by assumption) ?_
  rotate_left 1
  · (intro w0 hSw; (try dsimp only at hSw); go_split_ands; go_simp; (try with_reducible rfl))
  try simp only [Act.put, List.setIfInBounds_toArray, List.set_cons_zero, List.set_cons_succ, List.getElem_toArray, List.getElem_cons_zero, List.getElem_cons_succ]
  refine wpAnyH_ready (rs := [3]) (by kernel_rfl) (by simp) ?_
  refine AllReadyH.cons rfl (fun K hK => ?_) AllReadyH.nil
  go_simp
  refine (take_yes (HR.out.keeps (F := []) (Keeps.refl _ _).drew (by simp) (by simp)) 32 hl (by omega)).mono ?_
  rintro e w2 ⟨a2, rfl, hB2, _, hR2, hk2, _⟩
  have hk12 : Keeps [w.heap.size + 2] w1 w2 := ((Keeps.refl _ _).drew).trans hk2 (by simp)
  refine hK.out _ _ ?_ (fun hHeld => ?_)
  · exact .inr (hk12.mono (fun k hk => .inl (by simp at hk; simp [hk])))
  clear hK K
  try simp only [Act.put, List.setIfInBounds_toArray, List.set_cons_zero, List.set_cons_succ, List.getElem_toArray, List.getElem_cons_zero, List.getElem_cons_succ]
  obtain ⟨bs, hbs⟩ : ∃ bs, bs = t.take 32 := ⟨_, rfl⟩
  have hbl : bs.length = 32 := by rw [hbs, List.length_take]; omega
  rw [← hbs] at hB2
  obtain ⟨s, hs⟩ : ∃ s, s = t.drop 32 := ⟨_, rfl⟩
  rw [← hs] at hR2
  have HSS := Lib.hid hs
  clear hs
  obtain ⟨g2, o2, rfl, hg2, hr2⟩ := hB2.at (by omega)
  have hp2 := (hk12.block _ y2 (by simp)).trans HP1.out
  have hth := there_all hp2 2 32 (by rw [pf_length (by simp [zero32])]; omega)
  have hcp : ∀ ty, (Builtin.copy_ #[26, 26] ty #[.slice (some ⟨w.heap.size + 1, 2, none⟩) 32 32, .slice (some ⟨g2, o2, none⟩) 32 32]).run Try.prog w2 = .ok (.int .i64 32) (w2.setCells (w.heap.size + 1) 2 (bs.map B)) := fun ty => by
    have h := run_copy_cells (P := Try.prog) w2 26 26 ty 5 (w.heap.size + 1) 2 32 32 ⟨g2, o2, none⟩ 32 32 (bs.map B) Try.underlying26 (by kernel_rfl) (by rw [List.length_map, hbl]; rfl)
      (fun j v hv => by rw [Addr.add_mid]; exact hr2 j v hv) (fun j hj => (hth j (by rw [List.length_map, hbl] at hj; exact hj)).1) (fun j hj => (hth j (by rw [List.length_map, hbl] at hj; exact hj)).2) (B_one bs)
    rw [List.length_map, hbl] at h
    exact h
  have hpb : (w2.setCells (w.heap.size + 1) 2 (bs.map B)).heap[w.heap.size + 1]? = some (.cells (pfCells ⟨f, x, bs, []⟩ (.slice av x.length cv) (.slice none 0 0)).toArray 30 (0, 0)) := by
    have h := heap_setCells_same (w.heap.size + 1) 30 (bs.map B) 2 w2 _ hp2 (by rw [pf_length (by simp [zero32]), List.length_map, hbl]; omega)
    rw [pf_setbits (by simp [zero32]) hbl] at h
    exact h
  have hk1b : Keeps [w.heap.size + 2, w.heap.size + 1] w1 (w2.setCells (w.heap.size + 1) 2 (bs.map B)) := (hk12.mono (fun k hk => .inl (by simp at hk; simp [hk]))).setCells (.inl (by simp)) 2 _
  obtain ⟨wb, hwb⟩ : ∃ wb, wb = w2.setCells (w.heap.size + 1) 2 (bs.map B) := ⟨_, rfl⟩
  have hkb2 : Keeps [w.heap.size + 1] w2 wb := by rw [hwb]; exact (Keeps.refl _ _).setCells (.inl (by simp)) 2 _
  rw [← hwb] at hcp hpb hk1b
  have hRb := hR2.keeps hkb2 (by simp) (by simp)
  have HCP := Lib.hid hcp
  have HPB := Lib.hid hpb
  have HRB := Lib.hid hRb
  have HBS := Lib.hid hbs
  have HBL := Lib.hid hbl
  clear hcp hpb hR2 hRb hwb hB2 hr2 hp2 hth hbs hbl
  refine wpAnyH_ready (rs := [4]) (by kernel_rfl) (by simp) ?_
  refine AllReadyH.cons rfl (fun K hK => ?_) AllReadyH.nil
  refine step_copy rfl (.tmp 15) (.tmp 17) rfl _ _ _ (by rfl) (by rfl) HCP.out ?_
  refine hK.out _ _ ?_ (fun hHeld => ?_)
  · exact .inr hk1b
  clear hK K
  try simp only [Act.put, List.setIfInBounds_toArray, List.set_cons_zero, List.set_cons_succ, List.getElem_toArray, List.getElem_cons_zero, List.getElem_cons_succ]
  refine wpAnyH_done (by kernel_rfl) ?_ _
  obtain ⟨wd, hwd⟩ : ∃ wd, wd = wb := ⟨_, rfl⟩
  rw [← hwd]
  have hkd : Keeps [w.heap.size + 2, w.heap.size + 1] w1 wd := by rw [hwd]; exact hk1b
  have hpd : wd.heap[w.heap.size + 1]? = some (.cells (pfCells ⟨f, x, bs, []⟩ (.slice av x.length cv) (.slice none 0 0)).toArray 30 (0, 0)) := by rw [hwd]; exact HPB.out
  have hRd : Rd wd (w.heap.size + 2) (w.heap.size + 1) s false := by rw [hwd]; exact HRB.out
  clear hwd hk1b
  have hz2 := (hkd.block _ y1 (by simp)).trans HZB.out
  have hrr := pf_bits hpd HBL.out
  have y3 := lt_of_heap hz2
  have y4 := lt_of_heap hpd
  have HRR := Lib.hid hrr
  have HSZ := Lib.hid (size_32_of HBL.out)
  have HZ2 := Lib.hid hz2
  have HPD := Lib.hid hpd
  have HRD := Lib.hid hRd
  clear hpd hz2 hrr hRd
  go_wp2_with (refine wpList_load_mid rfl 27 (.tmp 19) rfl (w.heap.size + 1) 2 (by rfl) (bs.map B) _ HRR.out Try.underlying27 rfl HSZ.out ?_)
  refine (ones_any bs HBL.out).mono ?_
  rintro e w3 ⟨rfl, hk3⟩
  obtain ⟨m, hm⟩ : ∃ m, m = onesOf bs := ⟨_, rfl⟩
  rw [← hm]
  have hml := onesOf_le bs
  rw [HBL.out, ← hm] at hml
  have hR3 := HRD.out.keeps hk3 (by simp) (by simp)
  obtain ⟨a3, c3, hra, hb3, hb4, hc3⟩ := hR3
  obtain ⟨e0, e1, _⟩ := hra.facts
  have hp3 := (hk3.block _ y4 (by simp)).trans HPD.out
  have hz3 := (hk3.block _ y3 (by simp)).trans HZ2.out
  have K3 := (K1.trans hkd (fun k hk => .inr (by simp at hk; omega))).trans (G := []) hk3 (by simp)
  have HM := Lib.hid hm
  obtain ⟨a3', c3', hq, hc31, hc32⟩ := hb3.form
  injection hq with q1 _ q3
  subst q1 q3
  unfold maxLen at hc32
  have hrest := rest m HBS.out HSS.out HM.out
  clear rest
  have HRA := Lib.hid hra
  have HB3 := Lib.hid (And.intro hb3 (And.intro hb4 hc3))
  have HP3 := Lib.hid hp3
  clear hm hra hb3 hb4 hc3 hp3
  have hst := run_store_pf hz3 HZL.out HZL.out HZ1.out
  have hall := store_all (cs := Z) hz3 rfl
  have HST := Lib.hid hst
  have HALL := Lib.hid hall
  clear hst hall
  go_wp2_with (first | (refine wl_build rfl 30 #[] #[] rfl (by simp [Act.eval]) ?_; refine ⟨_, _, HBZ.out _, ?_⟩; try simp only [Act.put, List.setIfInBounds_toArray, List.set_cons_zero, List.set_cons_succ, List.getElem_toArray, List.getElem_cons_zero, List.getElem_cons_succ]) | (refine wl_store rfl 30 (.tmp 2) (.tmp 36) rfl ?_; refine ⟨_, HST.out, ?_⟩; try simp only [Act.put, List.setIfInBounds_toArray, List.set_cons_zero, List.set_cons_succ, List.getElem_toArray, List.getElem_cons_zero, List.getElem_cons_succ]))
  refine bodyPost_ret (results_pf2 (b := w.heap.size) rfl rfl rfl (rangeAt_all HALL.out) HZL.out) rfl ⟨_, rfl, ⟨_, _, by rw [HZ.out], BytesAt_nil _, .inl ⟨rfl, none, 0, rfl, by simp [maxLen]⟩, by simp [pf0, zero32], by simp [pf0]⟩, K3.setCells (.inr (Nat.le_refl _)) 0 _⟩
theorem run_arrayAt_digest (w : World) (a : Addr) : (Instr.arrayAt 45 (.slice (some a) 32 32)).run Try.prog w = .ok (.pointer (some a)) w := by
  simp [Instr.arrayAt, run_underlying Try.underlying45]
/-- The next n bytes, with where they lie. -/
theorem take_at {w : World} {rb N : Nat} {l : List UInt8} {sh : Bool} (hr : Rd w rb N l sh) (n : Nat) (h0 : 0 < n) (hn : n ≤ l.length) (hN : N ≤ rb) :
    ∃ g o, g < N ∧ w.rangeAt g o ((l.take n).map B) ∧ Calls Try.prog 23 #[.pointer (some ⟨rb, 0, none⟩), .int .i64 n] w fun e w' => e = .returned (.slice (some ⟨g, o, none⟩) n n) ∧ Rd w' rb N (l.drop n) sh ∧ Keeps [rb] w w' := by
  obtain ⟨a, c, h1, h2, h3, h4⟩ := id hr
  obtain ⟨g, o, rfl, hg, hrr⟩ := h2.at (by omega)
  have hgN : g < N := h3 g (by obtain ⟨q, hq⟩ : ∃ q, l.length = q + 1 := ⟨l.length - 1, by omega⟩; rw [hq]; rfl)
  refine ⟨g, o, hgN, fun j u hj => hrr j u ?_, ?_⟩
  · rw [List.getElem?_map, List.getElem?_take] at hj
    rw [List.getElem?_map]
    split at hj
    · exact hj
    · simp at hj
  · refine (take_ok h1 h2 n hn).mono ?_
    rintro e w' ⟨rfl, hR, hk⟩
    have hfar : ∀ k, (Value.slice (some ⟨g, o, none⟩) l.length c).elemBlock = some k → k ∉ [rb] := fun k hk' => by have := h3 k hk'; simp; omega
    have hb := bytes_back h2 hn h4
    have hbf : ∀ k, (sliced (some ⟨g, o, none⟩) n l.length c 1).elemBlock = some k → k < N := fun k hk' => h3 k (back_block hk')
    obtain ⟨a2, c2, e2, e3, e4⟩ := hb.form
    have hb' := hb.keeps hk (fun k hk' => hfar k (back_block hk'))
    rw [e2] at hR hb' hbf
    exact ⟨rfl, ⟨a2, c2, hR, hb', hbf, e4⟩, hk⟩
theorem flatten_length {l : List (List UInt8)} (h : ∀ s ∈ l, s.length = 32) : l.flatten.length = 32 * l.length := by
  induction l with
  | nil => rfl
  | cons x l ih =>
    have h1 := ih (fun s hs => h s (by simp [hs]))
    have h2 := h x (by simp)
    simp only [List.flatten_cons, List.length_append, List.length_cons, h1, h2]
    omega

set_option maxRecDepth 100000 in
set_option maxHeartbeats 1600000 in
theorem decode_good {w : World} {v : Value} {l : List UInt8} (hv : BytesAt w v l) {f : Bool} {x t : List UInt8} (hA : AnsYes l f x t) (hl : 32 ≤ t.length) {sums : List (List UInt8)} (hq : t.drop 32 = sums.flatten) (hd : ∀ s ∈ sums, s.length = 32) (hn : sums.length = onesOf (t.take 32)) :
    Calls Try.prog 13 #[v] w fun e w' => ∃ u, e = .returned (.tuple #[u, .int .i64 0]) ∧ PfIn w' u ⟨f, x, t.take 32, sums⟩ ∧ Keeps [] w w' := by
  have rest : ∀ (m : Nat) {bs s : List UInt8}, bs = t.take 32 → s = t.drop 32 → m = onesOf bs → ((s.length : Int) != (m : Int) * 32) = false ∧ sums.length = m := by
    rintro m bs s rfl rfl rfl
    have h := flatten_length hd
    rw [hq, h, hn]
    refine ⟨?_, rfl⟩
    simp only [bne_eq_false_iff_eq]
    omega
  have HQ := Lib.hid hq
  have HD := Lib.hid hd
  clear hq hd hn
  obtain ⟨a, c, rfl, hc, hm⟩ := hv.form
  obtain ⟨Z, hZ⟩ : ∃ Z, Z = (pfCells pf0 (.slice none 0 0) (.slice none 0 0)) := ⟨_, rfl⟩
  have hal := fun (w : World) => run_alloc (P := Try.prog) w info_proof
  rw [zProof_cells, show (⟨false, [], List.replicate 32 0, []⟩ : Pf) = pf0 from rfl, ← hZ] at hal
  obtain ⟨w0, hw0⟩ : ∃ w0, w0 = ((w.alloc (.cells Z.toArray 30 (0, 0))).alloc (.cells Z.toArray 30 (0, 0))).alloc (.cells #[.slice a l.length c, .bool false] 53 (0, 0)) := ⟨_, rfl⟩
  have x0 : w0.heap[w.heap.size]? = some (.cells Z.toArray 30 (0, 0)) := by rw [hw0, heap_old_at (by simp; omega), heap_old_at (by simp), heap_new_at rfl]
  have x1 : w0.heap[w.heap.size + 1]? = some (.cells Z.toArray 30 (0, 0)) := by rw [hw0, heap_old_at (by simp), heap_new_at (by simp)]
  have x2 : RdAt w0 (w.heap.size + 2) (.slice a l.length c) false := by unfold RdAt; rw [hw0, heap_new_at (by simp)]
  have K0 : Keeps [] w w0 := by rw [hw0]; exact (((Keeps.refl _ _).alloc _).alloc _).alloc _
  have s1 : (w.alloc (.cells Z.toArray 30 (0, 0))).heap.size = w.heap.size + 1 := by simp
  have s2 : ((w.alloc (.cells Z.toArray 30 (0, 0))).alloc (.cells Z.toArray 30 (0, 0))).heap.size = w.heap.size + 2 := by simp
  have hRd : Rd w0 (w.heap.size + 2) (w.heap.size + 1) l false := ⟨a, c, x2, hv.keeps K0 (by simp), fun k hk => by have := elem_lt hv hk; omega, hm⟩
  have hzl : Z.length = 35 := by rw [hZ]; exact pf_length (by simp [pf0, zero32]) _ _
  have hz1 : ∀ v ∈ Z, v.oneCell' = true := by rw [hZ]; exact pf_ones
  have hbz := run_build_zero
  rw [← hZ] at hbz
  have HBZ := Lib.hid hbz
  have cA := hA _ _ _ _ hRd (by omega) (by omega) (by omega) (hZ ▸ x1)
  have CA := Lib.hid cA
  have HZ := Lib.hid hZ
  have HAL := Lib.hid hal
  have HW := Lib.hid hw0
  have S12 := Lib.hid (And.intro s1 s2)
  have X0 := Lib.hid x0
  have HZL := Lib.hid hzl
  have HZ1 := Lib.hid hz1
  have y0 := lt_of_heap x0
  clear hZ hal hw0 x1 x2 s1 s2 hRd hv hA cA hzl hz1 hbz x0
  go_enter Try.func13, Try.ntmps13
  go_wp2_with (refine wl_alloc rfl 30 rfl ?_; refine ⟨_, _, HAL.out _, ?_⟩; try simp only [Act.put, List.setIfInBounds_toArray, List.set_cons_zero, List.set_cons_succ, List.getElem_toArray, List.getElem_cons_zero, List.getElem_cons_succ])
  rw [S12.out.1, show w.heap.size + 1 + 1 = w.heap.size + 2 from rfl, ← HW.out]
  refine CA.out.mono ?_
  rintro e w1 ⟨rfl, hR, vv, hp1, hO, hvb, hk1⟩
  have K1 := (K0.trans (G := [w.heap.size + 2, w.heap.size + 1]) hk1 (fun k hk => .inr (by simp at hk; omega)))
  have hz := (hk1.block _ y0 (by simp)).trans X0.out
  have HZB := Lib.hid hz
  have HR := Lib.hid hR
  have HP1 := Lib.hid hp1
  have HO := Lib.hid hO
  have HVB := Lib.hid hvb
  have y1 := lt_of_heap hz
  have y2 := lt_of_heap hp1
  obtain ⟨av, cv, rfl⟩ := ownB_slice hO
  clear hz hR hp1 hO hvb
  go_wp2_with fail
  refine wp_region_held_drew (S := (fun w' => Keeps [] w1 w' ∨ Keeps [w.heap.size + 2, w.heap.size + 1] w1 w')) (by kernel_rfl) ?_ (fun hHeld => ?_)
  · exact .inl (Keeps.refl _ _).drew
  refine' wpAnyH_take (i := 0) (v := _) rfl (by kernel_rfl) (by kernel_rfl) (by kernel_rfl) (fun _ _ _ h => h) (Or.inl ⟨by rfl, ?_⟩) (by assumption) ?_
  rotate_left 1
  · (intro w0 hSw; (try dsimp only at hSw); go_split_ands; go_simp; (try with_reducible rfl))
  try simp only [Act.put, List.setIfInBounds_toArray, List.set_cons_zero, List.set_cons_succ, List.getElem_toArray, List.getElem_cons_zero, List.getElem_cons_succ]
  refine' wpAnyH_take (i := 1) (v := _) rfl (by kernel_rfl) (by kernel_rfl) (by kernel_rfl) (fun _ _ _ h => h) (Or.inl ⟨by rfl, ?_⟩) (by assumption) ?_
  rotate_left 1
  · (intro w0 hSw; (try dsimp only at hSw); go_split_ands; go_simp; (try with_reducible rfl))
  try simp only [Act.put, List.setIfInBounds_toArray, List.set_cons_zero, List.set_cons_succ, List.getElem_toArray, List.getElem_cons_zero, List.getElem_cons_succ]
  refine' wpAnyH_take (i := 2) (v := _) rfl (by kernel_rfl) (by kernel_rfl) (by kernel_rfl) (fun _ _ _ h => h) (Or.inl ⟨by rfl, ?_⟩) (by assumption) ?_
  rotate_left 1
  · (intro w0 hSw; (try dsimp only at hSw); go_split_ands; go_simp; (try with_reducible rfl))
  try simp only [Act.put, List.setIfInBounds_toArray, List.set_cons_zero, List.set_cons_succ, List.getElem_toArray, List.getElem_cons_zero, List.getElem_cons_succ]
  refine wpAnyH_ready (rs := [3]) (by kernel_rfl) (by simp) ?_
  refine AllReadyH.cons rfl (fun K hK => ?_) AllReadyH.nil
  go_simp
  refine (take_yes (HR.out.keeps (F := []) (Keeps.refl _ _).drew (by simp) (by simp)) 32 hl (by omega)).mono ?_
  rintro e w2 ⟨a2, rfl, hB2, _, hR2, hk2, _⟩
  have hk12 : Keeps [w.heap.size + 2] w1 w2 := ((Keeps.refl _ _).drew).trans hk2 (by simp)
  refine hK.out _ _ ?_ (fun hHeld => ?_)
  · exact .inr (hk12.mono (fun k hk => .inl (by simp at hk; simp [hk])))
  clear hK K
  try simp only [Act.put, List.setIfInBounds_toArray, List.set_cons_zero, List.set_cons_succ, List.getElem_toArray, List.getElem_cons_zero, List.getElem_cons_succ]
  obtain ⟨bs, hbs⟩ : ∃ bs, bs = t.take 32 := ⟨_, rfl⟩
  have hbl : bs.length = 32 := by rw [hbs, List.length_take]; omega
  rw [← hbs] at hB2
  obtain ⟨s, hs⟩ : ∃ s, s = t.drop 32 := ⟨_, rfl⟩
  rw [← hs] at hR2
  have HSS := Lib.hid hs
  clear hs
  obtain ⟨g2, o2, rfl, hg2, hr2⟩ := hB2.at (by omega)
  have hp2 := (hk12.block _ y2 (by simp)).trans HP1.out
  have hth := there_all hp2 2 32 (by rw [pf_length (by simp [zero32])]; omega)
  have hcp : ∀ ty, (Builtin.copy_ #[26, 26] ty #[.slice (some ⟨w.heap.size + 1, 2, none⟩) 32 32, .slice (some ⟨g2, o2, none⟩) 32 32]).run Try.prog w2 = .ok (.int .i64 32) (w2.setCells (w.heap.size + 1) 2 (bs.map B)) := fun ty => by
    have h := run_copy_cells (P := Try.prog) w2 26 26 ty 5 (w.heap.size + 1) 2 32 32 ⟨g2, o2, none⟩ 32 32 (bs.map B) Try.underlying26 (by kernel_rfl) (by rw [List.length_map, hbl]; rfl)
      (fun j v hv => by rw [Addr.add_mid]; exact hr2 j v hv) (fun j hj => (hth j (by rw [List.length_map, hbl] at hj; exact hj)).1) (fun j hj => (hth j (by rw [List.length_map, hbl] at hj; exact hj)).2) (B_one bs)
    rw [List.length_map, hbl] at h
    exact h
  have hpb : (w2.setCells (w.heap.size + 1) 2 (bs.map B)).heap[w.heap.size + 1]? = some (.cells (pfCells ⟨f, x, bs, []⟩ (.slice av x.length cv) (.slice none 0 0)).toArray 30 (0, 0)) := by
    have h := heap_setCells_same (w.heap.size + 1) 30 (bs.map B) 2 w2 _ hp2 (by rw [pf_length (by simp [zero32]), List.length_map, hbl]; omega)
    rw [pf_setbits (by simp [zero32]) hbl] at h
    exact h
  have hk1b : Keeps [w.heap.size + 2, w.heap.size + 1] w1 (w2.setCells (w.heap.size + 1) 2 (bs.map B)) := (hk12.mono (fun k hk => .inl (by simp at hk; simp [hk]))).setCells (.inl (by simp)) 2 _
  obtain ⟨wb, hwb⟩ : ∃ wb, wb = w2.setCells (w.heap.size + 1) 2 (bs.map B) := ⟨_, rfl⟩
  have hkb2 : Keeps [w.heap.size + 1] w2 wb := by rw [hwb]; exact (Keeps.refl _ _).setCells (.inl (by simp)) 2 _
  rw [← hwb] at hcp hpb hk1b
  have hRb := hR2.keeps hkb2 (by simp) (by simp)
  have HCP := Lib.hid hcp
  have HPB := Lib.hid hpb
  have HRB := Lib.hid hRb
  have HBS := Lib.hid hbs
  have HBL := Lib.hid hbl
  clear hcp hpb hR2 hRb hwb hB2 hr2 hp2 hth hbs hbl
  refine wpAnyH_ready (rs := [4]) (by kernel_rfl) (by simp) ?_
  refine AllReadyH.cons rfl (fun K hK => ?_) AllReadyH.nil
  refine step_copy rfl (.tmp 15) (.tmp 17) rfl _ _ _ (by rfl) (by rfl) HCP.out ?_
  refine hK.out _ _ ?_ (fun hHeld => ?_)
  · exact .inr hk1b
  clear hK K
  try simp only [Act.put, List.setIfInBounds_toArray, List.set_cons_zero, List.set_cons_succ, List.getElem_toArray, List.getElem_cons_zero, List.getElem_cons_succ]
  refine wpAnyH_done (by kernel_rfl) ?_ _
  obtain ⟨wd, hwd⟩ : ∃ wd, wd = wb := ⟨_, rfl⟩
  rw [← hwd]
  have hkd : Keeps [w.heap.size + 2, w.heap.size + 1] w1 wd := by rw [hwd]; exact hk1b
  have hpd : wd.heap[w.heap.size + 1]? = some (.cells (pfCells ⟨f, x, bs, []⟩ (.slice av x.length cv) (.slice none 0 0)).toArray 30 (0, 0)) := by rw [hwd]; exact HPB.out
  have hRd : Rd wd (w.heap.size + 2) (w.heap.size + 1) s false := by rw [hwd]; exact HRB.out
  clear hwd hk1b
  have hz2 := (hkd.block _ y1 (by simp)).trans HZB.out
  have hrr := pf_bits hpd HBL.out
  have y3 := lt_of_heap hz2
  have y4 := lt_of_heap hpd
  have HRR := Lib.hid hrr
  have HSZ := Lib.hid (size_32_of HBL.out)
  have HZ2 := Lib.hid hz2
  have HPD := Lib.hid hpd
  have HRD := Lib.hid hRd
  clear hpd hz2 hrr hRd
  go_wp2_with (refine wpList_load_mid rfl 27 (.tmp 19) rfl (w.heap.size + 1) 2 (by rfl) (bs.map B) _ HRR.out Try.underlying27 rfl HSZ.out ?_)
  refine (ones_any bs HBL.out).mono ?_
  rintro e w3 ⟨rfl, hk3⟩
  obtain ⟨m, hm⟩ : ∃ m, m = onesOf bs := ⟨_, rfl⟩
  rw [← hm]
  have hml := onesOf_le bs
  rw [HBL.out, ← hm] at hml
  have hR3 := HRD.out.keeps hk3 (by simp) (by simp)
  obtain ⟨a3, c3, hra, hb3, hb4, hc3⟩ := hR3
  obtain ⟨e0, e1, _⟩ := hra.facts
  have hp3 := (hk3.block _ y4 (by simp)).trans HPD.out
  have hz3 := (hk3.block _ y3 (by simp)).trans HZ2.out
  have K3 := (K1.trans hkd (fun k hk => .inr (by simp at hk; omega))).trans (G := []) hk3 (by simp)
  have HM := Lib.hid hm
  obtain ⟨a3', c3', hq, hc31, hc32⟩ := hb3.form
  injection hq with q1 _ q3
  subst q1 q3
  unfold maxLen at hc32
  have hrest := rest m HBS.out HSS.out HM.out
  clear rest
  have HRA := Lib.hid hra
  have HB3 := Lib.hid (And.intro hb3 (And.intro hb4 hc3))
  have HP3 := Lib.hid hp3
  clear hm hra hb3 hb4 hc3 hp3
  obtain ⟨hrest, hsm⟩ := hrest
  have hss := HSS.out.trans HQ.out
  have HSM := Lib.hid hsm
  have hRd3 : Rd w3 (w.heap.size + 2) (w.heap.size + 1) ((sums.drop 0).flatten) false := by
    rw [List.drop_zero, ← hss]
    exact ⟨a3, c3, HRA.out, HB3.out⟩
  have HRD3 := Lib.hid hRd3
  have hvo : OwnB w3 (.slice av x.length cv) x := ownsRow_keep HO.out (fun j hj => by
    obtain ⟨v1, v2, v3⟩ := HVB.out j hj
    have h1 := (World.ownsRow.lt HO.out j hj).2
    rw [hk3.block j (Nat.lt_of_lt_of_le h1 hkd.size) (by simp)]
    exact hkd.block j h1 (by simp; omega))
  have HVO := Lib.hid hvo
  have HZ3 := Lib.hid hz3
  have hsz3 := K3.size
  have y5 := lt_of_heap HP3.out
  have y6 := HRD3.out.lt
  have hm8 : m ≤ 256 := by omega
  clear hss hsm hRd3 hvo hz3
  go_wp2_with fail
  clear e0 e1 hrest
  go_loopw [38] (fun i wr => ∃ (k : Nat) (sv : Value), k ≤ m ∧ i = .int .i64 k ∧ Rd wr (w.heap.size + 2) (w.heap.size + 1) ((sums.drop k).flatten) false ∧ wr.ownsRow w3.heap.size 45 32 sv k (sumCells (sums.take k)) ∧ wr.heap[w.heap.size + 1]? = some (.cells (pfCells ⟨f, x, bs, []⟩ (.slice av x.length cv) sv).toArray 30 (0, 0)) ∧ Keeps [w.heap.size + 2, w.heap.size + 1] w3 wr) (fun i _ => m - (intOf i).toNat)
  case atStart => exact ⟨0, .slice none 0 0, Nat.zero_le _, rfl, HRD3.out, World.ownsRow_nil _ _ _ _, HP3.out, Keeps.refl _ _⟩
  case round =>
    obtain ⟨k, sv, hk, rfl, hRr, hown, hpr, hkr⟩ := hrel
    have hov := hown.lt
    have q34 := (pf_cells hpr HBL.out).2.2
    have HPR := Lib.hid hpr
    have HOWN := Lib.hid hown
    have hszr := hkr.size
    have HKR := Lib.hid hkr
    clear hpr hown hkr
    by_cases hlt : k < m
    · have hlt2 : k < sums.length := by rw [HSM.out]; exact hlt
      have hd1 : sums.drop k = sums[k] :: sums.drop (k + 1) := List.drop_eq_getElem_cons hlt2
      have hll := HD.out _ (List.getElem_mem hlt2)
      obtain ⟨q, hqq⟩ : ∃ q, q = sums[k] := ⟨_, rfl⟩
      rw [hd1, List.flatten_cons, ← hqq] at hRr
      rw [← hqq] at hll
      obtain ⟨g4, o4, hg4, hr4, cT⟩ := take_at (hRr.keeps (F := []) (Keeps.refl _ _).drew (by simp) (by simp)) 32 (by omega) (by rw [List.length_append, hll]; omega) (by omega)
      rw [List.take_append_of_le_length (by omega), List.take_of_length_le (by omega)] at hr4
      rw [List.drop_append_of_le_length (by omega), List.drop_of_length_le (by omega), List.nil_append] at cT
      have hr4' : wr.rangeAt g4 o4 (q.map B) := hr4
      have hsd := size_digest_of hll
      have hovp : sv.ownBlock ≠ some (w.heap.size + 1) := fun e => by have := (hov _ e).1; omega
      have CT := Lib.hid cT
      have R4 := Lib.hid hr4'
      have HSD := Lib.hid hsd
      have HQQ := Lib.hid hqq
      have HLL := Lib.hid hll
      have hpz : w.heap.size + 1 < wr.heap.size := by omega
      have hgz : g4 < wr.heap.size := by omega
      clear hd1 hRr cT hr4 hr4' hsd hqq hll
      go_wp2_with fail
      refine rl_start (fun w' => w'.cell? ⟨w.heap.size + 1, 34, none⟩ = some sv ∧ w'.rangeAt g4 o4 (q.map B)) 9 (by kernel_rfl) ?_ (fun hHeld => ?_)
      · exact ⟨q34, R4.out⟩
      refine' rl_take (i := 0) (v := _) rfl (by kernel_rfl) (by kernel_rfl) (by kernel_rfl) (by kernel_rfl) (fun _ _ _ h => h) (Or.inl ⟨by rfl, ?_⟩) (by assumption) ?_
      rotate_left 1
      · (intro w0 hSw; (try dsimp only at hSw); go_split_ands; go_simp; (try with_reducible rfl))
      try simp only [Act.put, List.setIfInBounds_toArray, List.set_cons_zero, List.set_cons_succ, List.getElem_toArray, List.getElem_cons_zero, List.getElem_cons_succ]
      refine' rl_take (i := 1) (v := _) rfl (by kernel_rfl) (by kernel_rfl) (by kernel_rfl) (by kernel_rfl) (fun _ _ _ h => h) (Or.inl ⟨by rfl, ?_⟩) (by assumption) ?_
      rotate_left 1
      · (intro w0 hSw; (try dsimp only at hSw); go_split_ands; go_simp; (try with_reducible rfl))
      try simp only [Act.put, List.setIfInBounds_toArray, List.set_cons_zero, List.set_cons_succ, List.getElem_toArray, List.getElem_cons_zero, List.getElem_cons_succ]
      refine' rl_take (i := 2) (v := _) rfl (by kernel_rfl) (by kernel_rfl) (by kernel_rfl) (by kernel_rfl) (fun _ _ _ h => h) (Or.inl ⟨by rfl, ?_⟩) (by assumption) ?_
      rotate_left 1
      · (intro w0 hSw; (try dsimp only at hSw); go_split_ands; go_simp; (try with_reducible rfl))
      try simp only [Act.put, List.setIfInBounds_toArray, List.set_cons_zero, List.set_cons_succ, List.getElem_toArray, List.getElem_cons_zero, List.getElem_cons_succ]
      refine rl_act (i := 3) (by kernel_rfl) rfl (fun K hK => ?_)
      go_simp
      refine CT.out.mono ?_
      rintro e wa ⟨rfl, hRa, hka⟩
      have hka2 : Keeps [w.heap.size + 2] wr wa := ((Keeps.refl _ _).drew).trans hka (by simp)
      have fpa := hka2.block (w.heap.size + 1) hpz (by simp)
      have fga := hka2.block g4 hgz (by simp; omega)
      have q34a := (World.cell?_of_block (a := ⟨w.heap.size + 1, 34, none⟩) fpa).trans q34
      have hsza := hka2.size
      have hpz2 : w.heap.size + 1 < wa.heap.size := by omega
      have hgz2 : g4 < wa.heap.size := by omega
      have HRa := Lib.hid hRa
      have FPA := Lib.hid fpa
      have FGA := Lib.hid fga
      clear hRa fpa fga q34
      refine hK.out _ _ ?_ (fun hHeld => ?_)
      · exact ⟨q34a, rangeAt_of_heap R4.out FGA.out⟩
      clear hK K
      try simp only [Act.put, List.setIfInBounds_toArray, List.set_cons_zero, List.set_cons_succ, List.getElem_toArray, List.getElem_cons_zero, List.getElem_cons_succ]
      have hat := fun w => run_arrayAt_digest w ⟨g4, o4, none⟩
      refine' rl_take (i := 4) (v := _) rfl (by kernel_rfl) (by kernel_rfl) (by kernel_rfl) (by kernel_rfl) (fun _ _ _ h => h) (Or.inl ⟨by rfl, ?_⟩) (by assumption) ?_
      rotate_left 1
      · (intro w0 hSw; (try dsimp only at hSw); go_split_ands; go_simp; (try with_reducible rfl))
      try simp only [Act.put, List.setIfInBounds_toArray, List.set_cons_zero, List.set_cons_succ, List.getElem_toArray, List.getElem_cons_zero, List.getElem_cons_succ]
      clear hat
      refine' rl_take (i := 5) (v := _) rfl (by kernel_rfl) (by kernel_rfl) (by kernel_rfl) (by kernel_rfl) (fun _ _ _ h => h) (yieldsIf_load_mid (by rfl) 45 (.tmp 44) rfl g4 o4 rfl (q.map B) _ (fun _ h => h.2) Try.underlying45 rfl HSD.out) (by assumption) ?_
      try simp only [Act.put, List.setIfInBounds_toArray, List.set_cons_zero, List.set_cons_succ, List.getElem_toArray, List.getElem_cons_zero, List.getElem_cons_succ]
      refine rl_act (i := 6) (by kernel_rfl) rfl (fun K hK => ?_)
      (refine st_buildSlice rfl 28 1 #[(0, .tmp 45)] #[(0, .agg (q.map B).toArray)] rfl (by simp [Act.eval]) ?_; refine ⟨_, _, run_buildSlice_one _ Try.underlying28 info_digest (cs := (q.map B).toArray) (by simpa using HLL.out) (by omega) (by omega), ?_⟩; try simp only [Act.put, List.setIfInBounds_toArray, List.set_cons_zero, List.set_cons_succ, List.getElem_toArray, List.getElem_cons_zero, List.getElem_cons_succ])
      refine hK.out _ _ ?_ (fun hHeld => ?_)
      · exact ⟨(World.cell?_of_block (a := ⟨w.heap.size + 1, 34, none⟩) (heap_old_at hpz2)).trans q34a, rangeAt_of_heap (rangeAt_of_heap R4.out FGA.out) (heap_old_at hgz2)⟩
      clear hK K
      try simp only [Act.put, List.setIfInBounds_toArray, List.set_cons_zero, List.set_cons_succ, List.getElem_toArray, List.getElem_cons_zero, List.getElem_cons_succ]
      refine rl_act (i := 7) (by kernel_rfl) rfl (fun K hK => ?_)
      obtain ⟨i0, hi0, hz0, hz1, hz2⟩ := info_parts info_digest
      have hown_a : wa.ownsRow w3.heap.size 45 32 sv k (sumCells (sums.take k)) := ownsRow_keep HOWN.out (fun j hj => hka2.block j (hov j hj).2 (by have := (hov j hj).1; simp; omega))
      have l1 := hown_a.alloc (.cells (q.map B).toArray 45 (0, 0))
      have l2 : ∀ j u, (q.map B)[j]? = some u → (wa.alloc (.cells (q.map B).toArray 45 (0, 0))).cell? ((⟨wa.heap.size, 0, none⟩ : Addr).add j) = some u := World.news_of_block (cs := (q.map B).toArray) (t := 45) (fr := (0, 0)) (heap_new_at rfl)
      have l4 : (q.map B).length = 1 * 32 := by rw [List.length_map, HLL.out]
      have l5 : (wa.alloc (.cells (q.map B).toArray 45 (0, 0))).heap.size = wa.heap.size + 1 := by simp
      refine step_append_lies _ rfl (.tmp 41) (.tmp 46) 28 rfl w3.heap.size 45 i0 (.agg (Array.replicate 32 (.int .u8 0))) 32 32 Try.underlying28 hi0 hz0 hz1 hz2 (by simp [Value.cells]) (by omega) sv k (sumCells (sums.take k)) (by rfl) l1 ⟨wa.heap.size, 0, none⟩ 1 1 (q.map B) (by rfl) l4 l2 (B_one q) (by omega) (by simp only [maxLen]; omega) (by omega) (by omega) (wa.heap.size + 1) l5 ?_
      intro gq cap wn h1 h2 h3 h4
      have far : ∀ j, j < wr.heap.size → sv.ownBlock ≠ some j → wn.heap[j]? = wa.heap[j]? := fun j hj hne => by
        rw [h2.block j (by simp; omega) (fun e => hne e.symm)]
        exact heap_old_at (by omega)
      have fq := far _ hpz hovp
      have fg := far g4 hgz (fun e => by have := (hov _ e).1; omega)
      have q34n := (World.cell?_of_block (a := ⟨w.heap.size + 1, 34, none⟩) fq).trans q34a
      have hpn := (fq.trans FPA.out).trans HPR.out
      have hqn := frozen_of_row wn (w.heap.size + 1) 34 _ _ hpn
      have hkn := ((Keeps.refl sv.ownBlock.toList wa).alloc (.cells (q.map B).toArray 45 (0, 0))).grown h2 (fun j hj => .inl (by simp [hj]))
      have H1 := Lib.hid h1
      have FG := Lib.hid fg
      have HPN := Lib.hid hpn
      have HKN := Lib.hid hkn
      have hlwn := lt_of_heap hpn
      clear h1 h2 fg fq far l1 l2 l4 l5 h3 hpn hown_a
      refine hK.out _ _ ?_ (fun hHeld => ?_)
      · exact ⟨q34n, rangeAt_of_heap (rangeAt_of_heap R4.out FGA.out) FG.out⟩
      clear hK K
      try simp only [Act.put, List.setIfInBounds_toArray, List.set_cons_zero, List.set_cons_succ, List.getElem_toArray, List.getElem_cons_zero, List.getElem_cons_succ]
      refine' rl_take (i := 8) (v := _) rfl (by kernel_rfl) (by kernel_rfl) (by kernel_rfl) (by kernel_rfl) (fun _ _ _ h => h) (Or.inl ⟨by rfl, ?_⟩) (by assumption) ?_
      rotate_left 1
      · (intro w0 hSw; (try dsimp only at hSw); go_split_ands; go_simp; (try with_reducible rfl))
      try simp only [Act.put, List.setIfInBounds_toArray, List.set_cons_zero, List.set_cons_succ, List.getElem_toArray, List.getElem_cons_zero, List.getElem_cons_succ]
      refine rl_last (by kernel_rfl) (by kernel_rfl) rfl (fun K hK => ?_)
      go_simp
      refine hK.out _ _ ?_
      clear hK K
      try simp only [Act.put, List.setIfInBounds_toArray, List.set_cons_zero, List.set_cons_succ, List.getElem_toArray, List.getElem_cons_zero, List.getElem_cons_succ]
      go_wp2_with fail
      go_roundw
      case rel =>
        have hset : Keeps [w.heap.size + 1] wn (wn.setCell ⟨w.heap.size + 1, 34, none⟩ (.slice (some ⟨gq, 0, none⟩) (k + 1) cap)) := (Keeps.refl _ _).setCell (.inl (by simp)) _
        refine ⟨k + 1, .slice (some ⟨gq, 0, none⟩) (k + 1) cap, by omega, by go_num, ?_, ?_, ?_, ?_⟩
        · refine (HRa.out.keeps HKN.out (fun hm => ?_) (fun j hj => ?_)).keeps hset (by simp) (by simp)
          · have := (hov _ (by simpa using hm)).1; omega
          · have := (hov j (by simpa using hj)).1; omega
        · have e : sumCells (sums.take (k + 1)) = sumCells (sums.take k) ++ q.map B := by
            rw [List.take_succ_eq_append_getElem hlt2, ← HQQ.out]
            simp [sumCells]
          rw [e]
          refine ownsRow_keep H1.out (fun j hj => Below.heap_setCell _ _ _ _ ?_)
          have := (World.ownsRow.lt H1.out j hj).1
          simp
          omega
        · have h := heap_setCell_same wn (w.heap.size + 1) 34 _ _ (.slice (some ⟨gq, 0, none⟩) (k + 1) cap) HPN.out
          rw [pf_set34 (p := ⟨f, x, bs, []⟩) HBL.out] at h
          exact h
        · refine ((HKR.out.trans hka2 (by simp)).trans HKN.out (fun j hj => .inr ?_)).trans hset (by simp)
          exact (hov j (by simpa using hj)).1
      case measure => simp [intOf]; omega
    · have e : k = m := by omega
      obtain ⟨a9, c9, rfl⟩ := owns_slice HOWN.out
      obtain ⟨R, hR⟩ : ∃ R, R = pfCells ⟨f, x, bs, []⟩ (.slice av x.length cv) (.slice a9 k c9) := ⟨_, rfl⟩
      have hRl : R.length = 35 := by rw [hR]; exact pf_length HBL.out _ _
      have hR1 : ∀ v ∈ R, v.oneCell' = true := by rw [hR]; exact pf_ones
      have hqr := HPR.out
      rw [← hR] at hqr
      have hbz := (HKR.out.block w.heap.size (by omega) (by simp)).trans HZ3.out
      have hst := run_store_pf hbz HZL.out hRl hR1
      have hall := store_all (cs := R) hbz (by rw [HZL.out, hRl])
      have hrr := rangeAt_all hqr
      have hsr : (Try.prog.info? 30).map (·.size) = some R.length := by rw [size_proof, hRl]
      have HRR9 := Lib.hid hR
      have HST := Lib.hid hst
      have HALL := Lib.hid hall
      have HRA9 := Lib.hid hrr
      have HSR := Lib.hid hsr
      have HRL := Lib.hid hRl
      clear hR hRl hR1 hqr hbz hst hall hrr hsr q34 hRr
      go_wp2_with (first | (refine wpList_load_mid rfl 30 (.tmp 4) rfl (w.heap.size + 1) 0 (by rfl) R _ HRA9.out Try.underlying30 rfl HSR.out ?_) | (refine wl_store rfl 30 (.tmp 2) (.tmp 50) rfl ?_; refine ⟨_, HST.out, ?_⟩; try simp only [Act.put, List.setIfInBounds_toArray, List.set_cons_zero, List.set_cons_succ, List.getElem_toArray, List.getElem_cons_zero, List.getElem_cons_succ]))
      refine bodyPost_ret (results_pf2 (b := w.heap.size) rfl rfl rfl (rangeAt_all HALL.out) HRL.out) rfl ⟨_, rfl, ?_, ?_⟩
      · refine ⟨.slice av x.length cv, .slice a9 k c9, by rw [HRR9.out, HBS.out]; rfl, ?_, ?_, by rw [← HBS.out]; exact HBL.out, HD.out⟩
        · refine ownB_bytes (ownsRow_keep HVO.out (fun j hj => ?_))
          obtain ⟨v1, v2, v3⟩ := HVB.out j hj
          rw [heap_setCells_other _ _ _ (by omega)]
          exact HKR.out.block j (World.ownsRow.lt HVO.out j hj).2 (by simp; omega)
        · have h := HOWN.out
          have ek : sums.take k = sums := List.take_of_length_le (by rw [HSM.out]; omega)
          rw [ek] at h
          have el : k = sums.length := by rw [HSM.out]; exact e
          refine ownS_sums (l := sums) ?_
          unfold OwnS
          rw [← el]
          refine ownsRow_keep (ownsRow_base h) (fun j hj => ?_)
          have := (hov j hj).1
          rw [heap_setCells_other _ _ _ (by omega)]
      · exact (K3.trans HKR.out (fun j hj => .inr (by simp at hj; omega))).setCells (.inr (Nat.le_refl _)) 0 R
end Go.Proofs.Ytnobhfpjchofpaa
