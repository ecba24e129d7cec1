/-
  The walks of package disk: Write, Read.
-/
import Derived.Test.YtbjffjplpnnhoaaDkA
namespace Go.Proofs.Ytbjffjplpnnhoaa
set_option linter.unusedVariables false
set_option linter.unusedSimpArgs false
open Go.RowKit

theorem dWrite_down {w : World} {b : Nat} {page : Int} {dv : Value} (h8 : w.cell? ⟨b, 8, none⟩ = some (.bool true)) :
    Calls Try.prog 24 #[.pointer (some ⟨b, 0, none⟩), .int .i64 page, dv] w fun e w' => e = .returned (.int .i64 2) ∧ w = w' := by
  go_enter Try.func24, Try.ntmps24
  go_wp2_with fail
  go_ret
  exact ⟨rfl, rfl⟩
theorem dWrite_page {w : World} {b bp n cap : Nat} {page : Int} {dv : Value} (h4 : w.cell? ⟨b, 4, none⟩ = some (.slice (some ⟨bp, 0, none⟩) n cap)) (h8 : w.cell? ⟨b, 8, none⟩ = some (.bool false)) (hp : page < 0 ∨ (n : Int) ≤ page) :
    Calls Try.prog 24 #[.pointer (some ⟨b, 0, none⟩), .int .i64 page, dv] w fun e w' => e = .returned (.int .i64 41) ∧ w = w' := by
  have hd : (decide (0 ≤ page) && decide (page < n)) = false := by simp; omega
  have c := dHas_any page h4
  rw [hd] at c
  go_enter Try.func24, Try.ntmps24
  go_wp2_with (go_at_call 38; refine c.mono ?_; rintro e w' ⟨rfl, rfl⟩)
  go_ret
  exact ⟨rfl, rfl⟩
theorem dWrite_size {w : World} {b bp n cap : Nat} {page : Int} {a : Option Addr} {len c : Nat} (h4 : w.cell? ⟨b, 4, none⟩ = some (.slice (some ⟨bp, 0, none⟩) n cap)) (h8 : w.cell? ⟨b, 8, none⟩ = some (.bool false)) (hp : 0 ≤ page) (hp1 : page < n) (hl : len ≠ 256) :
    Calls Try.prog 24 #[.pointer (some ⟨b, 0, none⟩), .int .i64 page, .slice a len c] w fun e w' => e = .returned (.int .i64 42) ∧ w = w' := by
  have hd : (decide (0 ≤ page) && decide (page < n)) = true := by simp; omega
  have c := dHas_any page h4
  rw [hd] at c
  have hl' : ((len : Int) != 256) = true := by simp; omega
  go_enter Try.func24, Try.ntmps24
  go_wp2_with (go_at_call 38; refine c.mono ?_; rintro e w' ⟨rfl, rfl⟩)
  go_ret
  exact ⟨rfl, rfl⟩
set_option maxRecDepth 100000 in
set_option maxHeartbeats 400000 in
theorem dWrite_ok {w : World} {b : Nat} {d : D} {bp bm : Nat} {qv : Value} (page : Nat) {g o c : Nat} {data : List UInt8} (hI : DiskIn w b d bp qv bm) (hd : d.dead = false) (hp : page < d.n) (hl : data.length = 256)
    (hg : g < w.heap.size) (hr : w.rangeAt g o (data.map B)) (hc : 256 ≤ c) (hq : d.q.length < 4294967296) :
    Calls Try.prog 24 #[.pointer (some ⟨b, 0, none⟩), .int .i64 page, .slice (some ⟨g, o, none⟩) 256 c] w fun e w' => e = .returned (.int .i64 (if d.armed = 1 then 2 else 0)) ∧ ∃ qv', DiskIn w' b (d.write page data) bp qv' bm ∧ Keeps (b :: bp :: bm :: qv.ownBlock.toList) w w' ∧ (qv'.ownBlock = qv.ownBlock ∨ ∃ g, qv'.ownBlock = some g ∧ w.heap.size ≤ g) := by
  obtain ⟨c0, c1, c2, c3, c4, c5, c6, c7, c8, c9⟩ := hI.cells
  rw [hd] at c8
  have hp0 : (0 : Int) ≤ (page : Int) := Int.natCast_nonneg _
  have hp1 : (page : Int) < (d.n : Int) := by omega
  have hh := dHas_any (page : Int) c4
  rw [show (decide (0 ≤ (page : Int)) && decide ((page : Int) < d.n)) = true by simp [hp]] at hh
  have hbl := lt_of_heap hI.root
  have hcopy : ∀ ty, (Builtin.copy_ #[29, 29] ty #[.slice (some ⟨w.heap.size, 1, none⟩) 256 256, .slice (some ⟨g, o, none⟩) 256 c]).run Try.prog (w.alloc (.cells (zWrite page) 86)) = .ok (.int .i64 256) (w.alloc (.cells (wCells page data) 86)) := by
    intro ty
    have := run_copy_row (P := Try.prog) (w.alloc (.cells (zWrite page) 86)) 29 29 ty 5 w.heap.size 1 256 256 ⟨g, o, none⟩ 256 c (zWrite page) 86 (data.map B) Try.underlying29 (by kernel_rfl) (heap_alloc_new _ _) (by simp [hl])
      (fun j v hv => by rw [Addr.add_mid, World.cell?_alloc_lt _ _ _ hg]; exact hr j v hv) (by rw [zWrite_size]; simp [hl]) (B_one data)
    rw [this, World.setRow_alloc_new, write_cells page hl]
    simp [goInt, hl]
  obtain ⟨aq, cq, rfl⟩ := hI.form
  have hbm := hI.map.lt
  obtain ⟨w3, hput, hmap, hgr, hsz⟩ := (hI.map.keep (w' := (w.alloc (.cells (wCells page data) 86)).drew) (heap_old_at hI.map.lt)).put (tm := 62) Try.underlying3 Try.underlying62 (by simp only [maxLen]; omega)
    (show (Lit.int .i64 (page : Int)).wf = true from WalkArith.wf_i64 (by have := hI.ok; unfold D.ok at this; omega)) (show (Lit.int .i64 (d.q.length : Int)).wf = true from WalkArith.wf_i64 (by omega))
  have hne := hI.apart
  have hnb : b ≠ bm := hne.2.1
  have far : ∀ j, w3.cell? ⟨b, j, none⟩ = w.cell? ⟨b, j, none⟩ := fun j => by
    rw [hgr.cell_far _ (by simpa using Nat.lt_succ_of_lt hbl) (by simpa using hnb)]
    exact World.cell?_alloc_lt w _ ⟨b, j, none⟩ hbl
  have k1 := (far 1).trans c1
  have k3 := (far 3).trans c3
  have k5 := (far 5).trans c5
  have k6 := (far 6).trans c6
  have k7 := (far 7).trans c7
  have k8 := (far 8).trans c8
  have kf : ∀ j, w3.frozen? ⟨b, j, none⟩ = false := fun j => by
    rw [hgr.frozen_far _ (by simpa using Nat.lt_succ_of_lt hbl) (by simpa using hnb)]
    exact (World.frozen?_alloc_old w _ ⟨b, j, none⟩ (Nat.ne_of_lt hbl)).trans (hI.free j)
  have kw : w3.heap[w.heap.size]? = some (.cells (wCells page data) 86 (0, 0)) := by
    rw [hgr.block _ (by simp) (by simp; omega)]
    exact heap_new_at rfl
  have kr : w3.rangeAt w.heap.size 0 (.int .i64 page :: data.map B) := rangeAt_all kw
  have hbl3 : b < w3.heap.size := by rw [hsz]; simp; omega
  have kq : w3.ownsRow 0 86 257 (.slice aq d.q.length cq) d.q.length (qCells d.q) := by
    refine ownsRow_keep hI.queue (fun k hk => ?_)
    have hlt := (hI.queue.lt k hk).2
    rw [hgr.block k (by simp; omega) (fun e => (hne.2.2.2 k hk).2.2 (by simpa using e.symm))]
    exact heap_old_at hlt
  have HW := Lib.hid kw
  have HF := Lib.hid far
  have HM := Lib.hid hmap
  have HG := Lib.hid hgr
  clear far kw
  have HS := Lib.hid hsz
  have kroot : w3.heap[b]? = some (.cells (dCells d bp (.slice aq d.q.length cq) bm) 64 (0, 0)) := by
    rw [hgr.block b (by simp; omega) (by simpa using hnb), show (w.alloc (.cells (wCells page data) 86)).drew.heap[b]? = w.heap[b]? from heap_old_at hbl]; exact hI.root
  have kpages : w3.heap[bp]? = some (.cells (d.img.map B).toArray 84 (0, 0)) := by
    have hlt := lt_of_heap hI.pages
    rw [hgr.block bp (by simp; omega) (by simpa using hne.2.2.1), show (w.alloc (.cells (wCells page data) 86)).drew.heap[bp]? = w.heap[bp]? from heap_old_at hlt]; exact hI.pages
  have HKR := Lib.hid kroot
  have HKP := Lib.hid kpages
  have HD := Lib.hid hd
  have HSZ := Lib.hid hsz
  have hsz' : w.heap.size + 1 ≤ w3.heap.size := by rw [hsz]; simp
  have HN := Lib.hid hne
  clear hd hmap hgr hsz kroot kpages hne
  go_enter Try.func24, Try.ntmps24
  go_wp2_with (first | (go_at_call 38; refine hh.mono ?_; rintro e w' ⟨rfl, rfl⟩) | (refine wl_store rfl 86 (.tmp 7) (.tmp 23) rfl ?_; refine ⟨_, run_store_write _ _, ?_⟩; try simp only [Act.put, List.setIfInBounds_toArray, List.set_cons_zero, List.set_cons_succ, List.getElem_toArray, List.getElem_cons_zero, List.getElem_cons_succ]) | (refine wl_builtin rfl .copy #[.tmp 25, .tmp 26] #[29, 29] rfl ?_; refine ⟨_, _, run_builtin_copy (hcopy _), ?_⟩; try simp only [Act.put, List.setIfInBounds_toArray, List.set_cons_zero, List.set_cons_succ, List.getElem_toArray, List.getElem_cons_zero, List.getElem_cons_succ]))
  go_region_held3 (fun w' => w'.cell? ⟨b, 6, none⟩ = some (.map (some bm)) ∧ w'.cell? ⟨b, 5, none⟩ = some (.slice aq d.q.length cq)) (go_keep) (fail)
  go_wp2_with fail
  obtain ⟨wl, hwl⟩ : ∃ wl, wl = Value.int .i64 (page : Int) :: data.map B := ⟨_, rfl⟩
  rw [← hwl] at kr
  have hu := Try.underlying86
  have hi : (Try.prog.info? 86).map (·.size) = some wl.length := by rw [size_write, hwl]; simp [hl]
  have hwl1 : wl.length = 257 := by rw [hwl]; simp [hl]
  have HWL := Lib.hid hwl
  clear hwl
  refine rl_start (fun w' => w'.cell? ⟨b, 5, none⟩ = some (.slice aq d.q.length cq) ∧ w'.rangeAt w.heap.size 0 wl) 10 (by kernel_rfl) ?_ (fun hHeld => ?_)
  · exact ⟨k5, kr⟩
  refine' rl_take (i := 0) (v := _) rfl (by kernel_rfl) (by kernel_rfl) (by kernel_rfl) (by kernel_rfl) (fun _ _ _ h => h) (Or.inl ⟨by rfl, ?_⟩) (by assumption) ?_
  rotate_left 1
  · (intro w0 hSw; (try dsimp only at hSw); go_split_ands; go_simp; (try with_reducible rfl))
  try simp only [Act.put, List.setIfInBounds_toArray, List.set_cons_zero, List.set_cons_succ, List.getElem_toArray, List.getElem_cons_zero, List.getElem_cons_succ]
  refine' rl_take (i := 1) (v := _) rfl (by kernel_rfl) (by kernel_rfl) (by kernel_rfl) (by kernel_rfl) (fun _ _ _ h => h) (Or.inl ⟨by rfl, ?_⟩) (by assumption) ?_
  rotate_left 1
  · (intro w0 hSw; (try dsimp only at hSw); go_split_ands; go_simp; (try with_reducible rfl))
  try simp only [Act.put, List.setIfInBounds_toArray, List.set_cons_zero, List.set_cons_succ, List.getElem_toArray, List.getElem_cons_zero, List.getElem_cons_succ]
  refine' rl_take (i := 2) (v := _) rfl (by kernel_rfl) (by kernel_rfl) (by kernel_rfl) (by kernel_rfl) (fun _ _ _ h => h) (Or.inl ⟨by rfl, ?_⟩) (by assumption) ?_
  rotate_left 1
  · (intro w0 hSw; (try dsimp only at hSw); go_split_ands; go_simp; (try with_reducible rfl))
  try simp only [Act.put, List.setIfInBounds_toArray, List.set_cons_zero, List.set_cons_succ, List.getElem_toArray, List.getElem_cons_zero, List.getElem_cons_succ]
  refine' rl_take (i := 3) (v := _) rfl (by kernel_rfl) (by kernel_rfl) (by kernel_rfl) (by kernel_rfl) (fun _ _ _ h => h) (Or.inl ⟨by rfl, ?_⟩) (by assumption) ?_
  rotate_left 1
  · (intro w0 hSw; (try dsimp only at hSw); go_split_ands; go_simp; (try with_reducible rfl))
  try simp only [Act.put, List.setIfInBounds_toArray, List.set_cons_zero, List.set_cons_succ, List.getElem_toArray, List.getElem_cons_zero, List.getElem_cons_succ]
  refine' rl_take (i := 4) (v := _) rfl (by kernel_rfl) (by kernel_rfl) (by kernel_rfl) (by kernel_rfl) (fun _ _ _ h => h) (Or.inl ⟨by rfl, ?_⟩) (by assumption) ?_
  rotate_left 1
  · (intro w0 hSw; (try dsimp only at hSw); go_split_ands; go_simp; (try with_reducible rfl))
  try simp only [Act.put, List.setIfInBounds_toArray, List.set_cons_zero, List.set_cons_succ, List.getElem_toArray, List.getElem_cons_zero, List.getElem_cons_succ]
  refine' rl_take (i := 5) (v := _) rfl (by kernel_rfl) (by kernel_rfl) (by kernel_rfl) (by kernel_rfl) (fun _ _ _ h => h) (yieldsIf_load_mid (by rfl) 86 (.tmp 7) rfl w.heap.size 0 rfl wl _ (fun _ h => h.2) hu rfl hi) (by assumption) ?_
  try simp only [Act.put, List.setIfInBounds_toArray, List.set_cons_zero, List.set_cons_succ, List.getElem_toArray, List.getElem_cons_zero, List.getElem_cons_succ]
  refine rl_act (i := 6) (by kernel_rfl) rfl (fun K hK => ?_)
  (refine st_buildSlice rfl 61 1 #[(0, .tmp 43)] #[(0, .agg wl.toArray)] rfl (by simp [Act.eval]) ?_; refine ⟨_, _, run_buildSlice_one _ Try.underlying61 info_write (cs := wl.toArray) (by simpa using hwl1) (by omega) (by omega), ?_⟩; try simp only [Act.put, List.setIfInBounds_toArray, List.set_cons_zero, List.set_cons_succ, List.getElem_toArray, List.getElem_cons_zero, List.getElem_cons_succ])
  refine hK.out _ _ ?_ (fun hHeld => ?_)
  · exact ⟨(World.cell?_alloc_lt _ _ ⟨b, 5, none⟩ (by simpa using hbl3)).trans hHeld.1, World.rangeAt_alloc hHeld.2 _⟩
  clear hK K
  try simp only [Act.put, List.setIfInBounds_toArray, List.set_cons_zero, List.set_cons_succ, List.getElem_toArray, List.getElem_cons_zero, List.getElem_cons_succ]
  refine rl_act (i := 7) (by kernel_rfl) rfl (fun K hK => ?_)
  obtain ⟨i0, hi0, hz0, hz1, hz2⟩ := info_parts info_write
  have l1 : (w3.drew.alloc (.cells wl.toArray 86)).ownsRow 0 86 257 (.slice aq d.q.length cq) d.q.length (qCells d.q) := (show w3.drew.ownsRow _ _ _ _ _ _ from kq).alloc _
  have l2 : ∀ j u, wl[j]? = some u → (w3.drew.alloc (.cells wl.toArray 86)).cell? ((⟨w3.heap.size, 0, none⟩ : Addr).add j) = some u := World.news_of_block (cs := wl.toArray) (t := 86) (fr := (0, 0)) (heap_new_at rfl)
  have l3 : ∀ u ∈ wl, u.oneCell' = true := by
    rw [HWL.out]
    intro u hu'
    rcases List.mem_cons.1 hu' with rfl | hu'
    · rfl
    · exact B_one data u hu'
  have l4 : wl.length = 1 * 257 := hwl1
  have l5 : (w3.drew.alloc (.cells wl.toArray 86)).heap.size = w3.heap.size + 1 := by simp
  refine step_append_lies _ rfl (.tmp 42) (.tmp 44) 61 rfl 0 86 i0 (.agg Try.zeroCells86) 257 264 Try.underlying61 hi0 hz0 hz1 hz2 cells_zero_write (by omega) (.slice aq d.q.length cq) d.q.length (qCells d.q) (by rfl) l1 ⟨w3.heap.size, 0, none⟩ 1 1 wl (by rfl) l4 l2 l3 (by omega) (by simp only [maxLen]; omega) (by omega) (by omega) (w3.heap.size + 1) l5 ?_
  intro gq cap w4 hown4 hgr4 hat4 hlt4
  have hbq : (Value.slice aq d.q.length cq).ownBlock ≠ some b := fun e => (HN.out.2.2.2 b e).1 rfl
  have far4 : ∀ j, w4.cell? ⟨b, j, none⟩ = w3.cell? ⟨b, j, none⟩ := fun j => by
    rw [hgr4.cell_far ⟨b, j, none⟩ (by simp; omega) (fun e => hbq e.symm)]
    exact World.cell?_alloc_lt _ _ ⟨b, j, none⟩ (by simpa using hbl3)
  have free4 : ∀ j, w4.frozen? ⟨b, j, none⟩ = false := fun j => by
    rw [hgr4.frozen_far ⟨b, j, none⟩ (by simp; omega) (fun e => hbq e.symm)]
    exact (World.frozen?_alloc_old _ _ ⟨b, j, none⟩ (Nat.ne_of_lt (by simpa using hbl3))).trans (kf j)
  have m1 := (far4 1).trans k1
  have m3 := (far4 3).trans k3
  have m5 := (far4 5).trans k5
  have m7 := (far4 7).trans k7
  have m8 := (far4 8).trans k8
  have HF4 := Lib.hid far4
  have HOWN4 := Lib.hid hown4
  have HGR4 := Lib.hid hgr4
  have HAT4 := Lib.hid hat4
  clear far4 hown4 hgr4 hat4 l1 l2 l3 l4 l5 kq
  refine hK.out _ _ ?_ (fun hHeld => ?_)
  · refine ⟨m5, rangeAt_of_heap kr ?_⟩
    rw [HGR4.out.block w.heap.size (by simp; omega) (fun e => by have := (hI.queue.lt w.heap.size e.symm).2; omega)]
    exact heap_old_at (by simpa using Nat.lt_of_succ_le hsz')
  clear hK K
  try simp only [Act.put, List.setIfInBounds_toArray, List.set_cons_zero, List.set_cons_succ, List.getElem_toArray, List.getElem_cons_zero, List.getElem_cons_succ]
  refine rl_act (i := 8) (by kernel_rfl) rfl (fun K hK => ?_)
  go_simp
  refine hK.out _ _ ?_ (fun hHeld => ?_)
  · exact hHeld
  clear hK K
  try simp only [Act.put, List.setIfInBounds_toArray, List.set_cons_zero, List.set_cons_succ, List.getElem_toArray, List.getElem_cons_zero, List.getElem_cons_succ]
  refine' rl_take (i := 9) (v := _) rfl (by kernel_rfl) (by kernel_rfl) (by kernel_rfl) (by kernel_rfl) (fun _ _ _ h => h) (Or.inl ⟨by rfl, ?_⟩) (by assumption) ?_
  rotate_left 1
  · (intro w0 hSw; (try dsimp only at hSw); go_split_ands; go_simp; (try with_reducible rfl))
  try simp only [Act.put, List.setIfInBounds_toArray, List.set_cons_zero, List.set_cons_succ, List.getElem_toArray, List.getElem_cons_zero, List.getElem_cons_succ]
  refine rl_last (by kernel_rfl) (by kernel_rfl) rfl (fun K hK => ?_)
  go_simp
  refine hK.out _ _ ?_
  clear hK K
  try simp only [Act.put, List.setIfInBounds_toArray, List.set_cons_zero, List.set_cons_succ, List.getElem_toArray, List.getElem_cons_zero, List.getElem_cons_succ]
  have p7 : (((w4.setCell ⟨b, 5, none⟩ (.slice (some ⟨gq, 0, none⟩) (d.q.length + 1) cap)).setCell ⟨b, 1, none⟩ (.int .i64 (wrap64 (d.writes + 1)))).setCell ⟨b, 3, none⟩ (.int .i64 (d.q.length + 1))).cell? ⟨b, 7, none⟩ = some (.int .i64 d.armed) := by go_simp
  have p8 : (((w4.setCell ⟨b, 5, none⟩ (.slice (some ⟨gq, 0, none⟩) (d.q.length + 1) cap)).setCell ⟨b, 1, none⟩ (.int .i64 (wrap64 (d.writes + 1)))).setCell ⟨b, 3, none⟩ (.int .i64 (d.q.length + 1))).cell? ⟨b, 8, none⟩ = some (.bool false) := by go_simp
  have hok := hI.ok
  go_wp2_with fail
  refine (dAct_any p7 p8 (by go_simp) (by go_simp) hok.2.2.2.2.1 hok.2.2.2.2.2).mono ?_
  rintro e w5 ⟨rfl, hw5⟩
  have HW5 := Lib.hid hw5
  clear hw5
  go_wp2_with fail
  all_goals
    go_ret
    refine ⟨rfl, .slice (some ⟨gq, 0, none⟩) (d.q.length + 1) cap, ?_⟩
    obtain ⟨a1, a2, a3, a4⟩ := HN.out
    have hg4 := HGR4.out
    have hg3 := HG.out
    have hq4 : ∀ k, (Value.slice aq d.q.length cq).ownBlock = some k → k < w.heap.size := fun k hk => (hI.queue.lt k hk).2
    have root4 : w4.heap[b]? = some (.cells (dCells d bp (.slice aq d.q.length cq) bm) 64 (0, 0)) := by
      rw [hg4.block b (by simp; omega) (fun e => hbq e.symm), show (w3.drew.alloc (.cells wl.toArray 86)).heap[b]? = w3.heap[b]? from heap_old_at hbl3]; exact HKR.out
    have lp := lt_of_heap hI.pages
    have pages4 : w4.heap[bp]? = some (.cells (d.img.map B).toArray 84 (0, 0)) := by
      rw [hg4.block bp (by simp; omega) (fun e => (a4 bp e.symm).2.1 rfl), show (w3.drew.alloc (.cells wl.toArray 86)).heap[bp]? = w3.heap[bp]? from heap_old_at (by show bp < w3.heap.size; omega)]; exact HKP.out
    have map4 : IMap Try.prog w4 3 bm (d.q ++ [(page, data)]).length (newest (d.q ++ [(page, data)])) := by
      rw [newest_snoc, List.length_append]
      refine HM.out.keep ?_
      rw [hg4.block bm (by simp; omega) (fun e => (a4 bm e.symm).2.2 rfl)]
      exact heap_old_at (by show bm < w3.heap.size; omega)
    have own4 : w4.ownsRow 0 86 257 (.slice (some ⟨gq, 0, none⟩) (d.q.length + 1) cap) (d.q ++ [(page, data)]).length (qCells (d.q ++ [(page, data)])) := by
      rw [qCells_snoc, List.length_append, ← HWL.out]
      exact HOWN4.out
    have hok1 : D.ok { d with q := d.q ++ [(page, data)], writes := wrap64 (d.writes + 1) } := by
      obtain ⟨o1, o2, o3, o4, o5, o6⟩ := hok
      refine ⟨o1, o2, o3, ?_, o5, o6⟩
      intro p hp'
      rcases List.mem_append.1 hp' with hp' | hp'
      · exact o4 p hp'
      · obtain rfl : p = (page, data) := by simpa using hp'
        exact ⟨hp, hl⟩
    have hat : gq ≠ b := by
      rcases HAT4.out with e | e
      · intro e'; subst e'; exact hbq e
      · omega
    have hin := write_close (d := d) (d1 := { d with q := d.q ++ [(page, data)], writes := wrap64 (d.writes + 1) }) hok1 root4 pages4 own4 map4 a1 a2 (by simpa [Value.ownBlock] using hat) (wrap64 (d.writes + 1)) (d.q.length + 1) rfl (by simp)
    obtain ⟨hact, hk5⟩ := act_close hin HD.out HW5.out
    refine ⟨hact, ?_, ?_⟩
    · have k3 : Keeps (b :: bp :: bm :: (Value.slice aq d.q.length cq).ownBlock.toList) w w3 := (((Keeps.refl _ _).alloc _).drew).grown hg3 (by simp)
      have k4 : Keeps (b :: bp :: bm :: (Value.slice aq d.q.length cq).ownBlock.toList) w w4 := ((k3.drew).alloc _).grown hg4 (fun k hk => .inl (by simp [hk]))
      exact (((k4.setCell (.inl (by simp)) _).setCell (.inl (by simp)) _).setCell (.inl (by simp)) _).trans hk5 (by simp)
    · rcases HAT4.out with e | e
      · exact .inl e.symm
      · exact .inr ⟨gq, rfl, by omega⟩
end Go.Proofs.Ytbjffjplpnnhoaa
