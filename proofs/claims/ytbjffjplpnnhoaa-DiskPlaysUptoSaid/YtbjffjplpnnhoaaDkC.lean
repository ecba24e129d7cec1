/-
  The walk of package disk's Read.
-/
import Derived.Test.YtbjffjplpnnhoaaDkA
namespace Go.Proofs.Ytbjffjplpnnhoaa
set_option linter.unusedVariables false
set_option linter.unusedSimpArgs false
open Go.RowKit

theorem dRead_down {w : World} {b : Nat} {page : Int} (h8 : w.cell? ⟨b, 8, none⟩ = some (.bool true)) :
    Calls Try.prog 25 #[.pointer (some ⟨b, 0, none⟩), .int .i64 page] w fun e w' => e = .returned (.tuple #[.slice none 0 0, .int .i64 2]) ∧ w = w' := by
  go_enter Try.func25, Try.ntmps25
  go_wp2_with fail
  go_ret2
  exact ⟨rfl, rfl⟩
theorem dRead_page {w : World} {b bp n cap : Nat} {page : Int} (h4 : w.cell? ⟨b, 4, none⟩ = some (.slice (some ⟨bp, 0, none⟩) n cap)) (h8 : w.cell? ⟨b, 8, none⟩ = some (.bool false)) (hp : page < 0 ∨ (n : Int) ≤ page) :
    Calls Try.prog 25 #[.pointer (some ⟨b, 0, none⟩), .int .i64 page] w fun e w' => e = .returned (.tuple #[.slice none 0 0, .int .i64 41]) ∧ w = w' := by
  have hd : (decide (0 ≤ page) && decide (page < n)) = false := by simp; omega
  have c := dHas_any page h4
  rw [hd] at c
  go_enter Try.func25, Try.ntmps25
  go_wp2_with (go_at_call 38; refine c.mono ?_; rintro e w' ⟨rfl, rfl⟩)
  go_ret2
  exact ⟨rfl, rfl⟩

theorem page_split {d : D} (h : d.ok) {p : Nat} (hp : p < d.n) : ∃ xs zs, d.img = xs ++ d.page p ++ zs ∧ xs.length = p * 256 := by
  refine ⟨d.img.take (p * 256), d.img.drop ((p + 1) * 256), ?_, ?_⟩
  · simp only [D.page]
    rw [← List.take_add, Nat.add_mul, Nat.one_mul, List.take_append_drop]
  · have := h.2.2.1
    simp
    omega
theorem page_length {d : D} (h : d.ok) {p : Nat} (hp : p < d.n) : (d.page p).length = 256 := by
  have := h.2.2.1
  simp [D.page]
  omega
theorem page_range {w : World} {bp : Nat} {d : D} (h : w.heap[bp]? = some (.cells (d.img.map B).toArray 84 (0, 0))) (ho : d.ok) {p : Nat} (hp : p < d.n) : w.rangeAt bp (p * 256) ((d.page p).map B) := by
  obtain ⟨xs, zs, e, hl⟩ := page_split ho hp
  rw [← hl]
  rw [e, List.map_append, List.map_append] at h
  have := rangeAt_part h
  rwa [List.length_map] at this
theorem size_page_of {l : List UInt8} (h : l.length = 256) : (Try.prog.info? 84).map (·.size) = some (l.map B).length := by rw [size_page, List.length_map, h]
theorem run_store_page {l : List UInt8} (h : l.length = 256) (w : World) {n : Nat} (hn : n = w.heap.size) : (Instr.storeAt 84 (.pointer (some ⟨n, 0, none⟩)) (.agg (l.map B).toArray)).run Try.prog (w.alloc (.cells Try.zeroCells84 84)) = .ok () (w.alloc (.cells (l.map B).toArray 84)) := by
  subst hn
  exact run_storeAt_new w 84 Try.zeroCells84 (l.map B).toArray (by rw [size_page]; simp [h]) (by rw [Try.zeroCells84_size]; simp [h]) (all_oneCell_toArray (B_one l))
theorem run_store_page2 {l l2 : List UInt8} (h : l.length = 256) (h2 : l2.length = 256) (w : World) {n : Nat} (hn : n = w.heap.size) : (Instr.storeAt 84 (.pointer (some ⟨n, 0, none⟩)) (.agg (l.map B).toArray)).run Try.prog (w.alloc (.cells (l2.map B).toArray 84)) = .ok () (w.alloc (.cells (l.map B).toArray 84)) := by
  subst hn
  exact run_storeAt_new w 84 (l2.map B).toArray (l.map B).toArray (by rw [size_page]; simp [h]) (by simp [h, h2]) (all_oneCell_toArray (B_one l))

set_option maxRecDepth 100000 in
set_option maxHeartbeats 1200000 in
theorem dRead_ok {w : World} {b : Nat} {d : D} {bp bm : Nat} {qv : Value} (page : Nat) (hI : DiskIn w b d bp qv bm) (hd : d.dead = false) (hp : page < d.n) :
    Calls Try.prog 25 #[.pointer (some ⟨b, 0, none⟩), .int .i64 page] w fun e w' => ∃ g cap, e = .returned (.tuple #[.slice (some ⟨g, 0, none⟩) 256 cap, .int .i64 0]) ∧ w.heap.size ≤ g ∧
      OwnB w' (.slice (some ⟨g, 0, none⟩) 256 cap) (d.read page) ∧ DiskIn w' b { d with reads := wrap64 (d.reads + 1) } bp qv bm ∧ Keeps [b] w w' := by
  obtain ⟨c0, c1, c2, c3, c4, c5, c6, c7, c8, c9⟩ := hI.cells
  rw [hd] at c8
  have f0 := hI.free 0
  have hok := hI.ok
  obtain ⟨a1, a2, a3, a4⟩ := hI.apart
  have hp0 : (0 : Int) ≤ (page : Int) := Int.natCast_nonneg _
  have hp1 : (page : Int) < (d.n : Int) := by omega
  have hh := dHas_any (page : Int) c4
  rw [show (decide (0 ≤ (page : Int)) && decide ((page : Int) < d.n)) = true by simp [hp]] at hh
  have hbl := lt_of_heap hI.root
  have hpl := lt_of_heap hI.pages
  have hk1 : Keeps [b] w (w.setCell ⟨b, 0, none⟩ (.int .i64 (wrap64 (d.reads + 1)))) := (Keeps.refl _ _).setCell (.inl (by simp)) _
  have pages1 : (w.setCell ⟨b, 0, none⟩ (.int .i64 (wrap64 (d.reads + 1)))).heap[bp]? = some (.cells (d.img.map B).toArray 84 (0, 0)) := (hk1.block bp hpl (by simpa using Ne.symm a1)).trans hI.pages
  have hr1 := page_range pages1 hok hp
  have hpg := page_length hok hp
  have hk2 : Keeps [b] w ((w.setCell ⟨b, 0, none⟩ (.int .i64 (wrap64 (d.reads + 1)))).alloc (.cells ((d.page page).map B).toArray 84)) := hk1.alloc _
  have hmap2 : IMap Try.prog ((w.setCell ⟨b, 0, none⟩ (.int .i64 (wrap64 (d.reads + 1)))).alloc (.cells ((d.page page).map B).toArray 84)) 3 bm d.q.length (newest d.q) := hI.map.keep (hk2.block bm hI.map.lt (by simpa using Ne.symm a2))
  have hlook := hmap2.look (tm := 62) Try.underlying3 Try.underlying62 (by kernel_rfl) (show (Lit.int .i64 (page : Int)).wf = true from WalkArith.wf_i64 (by unfold D.ok at hok; omega))
  have HMAP := Lib.hid hmap2
  have HPG := Lib.hid pages1
  have HK1 := Lib.hid hk1
  have HK2 := Lib.hid hk2
  have HD := Lib.hid hd
  clear hmap2 pages1 hk1 hk2 hd
  obtain ⟨aq, cq, rfl⟩ := hI.form
  cases hnew : newest d.q page with
  | none =>
    rw [hnew] at hlook
    simp only [Option.getD_none, Option.isSome_none] at hlook
    have HN := Lib.hid hnew
    clear hnew
    go_enter Try.func25, Try.ntmps25
    go_wp2_with (first | (go_at_call 38; refine hh.mono ?_; rintro e w' ⟨rfl, rfl⟩) | (refine wl_load rfl 84 (.tmp 31) rfl ?_; refine ⟨_, _, run_loadAt_mid _ _ _ _ _ _ hr1 Try.underlying84 rfl (size_page_of hpg), ?_⟩; try simp only [Act.put, List.setIfInBounds_toArray, List.set_cons_zero, List.set_cons_succ, List.getElem_toArray, List.getElem_cons_zero, List.getElem_cons_succ]) | (refine wl_store rfl 84 (.tmp 6) (.tmp 32) rfl ?_; refine ⟨_, run_store_page hpg _ (by simp), ?_⟩; try simp only [Act.put, List.setIfInBounds_toArray, List.set_cons_zero, List.set_cons_succ, List.getElem_toArray, List.getElem_cons_zero, List.getElem_cons_succ]) | (refine wl_append_nil rfl (.const (.slice none 0 0)) (.tmp 51) rfl rfl rfl (d.page page) hpg (by omega) (rangeAt_all (heap_new_at (by simp))) (by omega) ?_))
    intro cap w4 h1 h2 h3
    go_wp2_with fail
    go_ret2
    refine ⟨w.heap.size + 1, cap, rfl, by omega, ?_, ?_, HK2.out.grown h2 (by simp)⟩
    · unfold D.read; rw [HN.out]; exact h1
    · exact (hI.setc { d with reads := wrap64 (d.reads + 1) } 0 _ rfl rfl hok rfl).keeps (((Keeps.refl [] _).alloc _).grown h2 (by simp)) (by simp)
  | some i =>
    obtain ⟨i0, i1, i2⟩ := newest_some hnew
    obtain ⟨i, rfl⟩ := Int.eq_ofNat_of_zero_le i0
    have hil : i < d.q.length := by simpa using i1
    rw [hnew] at hlook
    simp only [Option.getD_some, Option.isSome_some] at hlook
    have hrd : d.read page = d.q[i].2 := by unfold D.read; rw [hnew]; simp [List.getD_eq_getElem?_getD, List.getElem?_eq_getElem hil]
    have hrl : d.q[i].2.length = 256 := (hok.2.2.2.1 _ (List.getElem_mem hil)).2
    obtain ⟨gq, rfl⟩ : ∃ gq, aq = some ⟨gq, 0, none⟩ := by
      rcases hI.queue.2 with ⟨_, h0⟩ | ⟨g, cap, cur, hv, _⟩
      · omega
      · injection hv with e _ _
        exact ⟨g, e⟩
    have hgq : b ≠ gq := (a4 gq rfl).1
    have hrq : ((w.setCell ⟨b, 0, none⟩ (.int .i64 (wrap64 (d.reads + 1)))).alloc (.cells ((d.page page).map B).toArray 84)).rangeAt gq (i * 257 + 1) (d.q[i].2.map B) := by
      have hlt := (hI.queue.lt gq rfl).2
      refine rangeAt_of_heap (w := w) ?_ (HK2.out.block gq hlt (by simpa using Ne.symm hgq))
      rcases hI.queue.2 with ⟨hv, _⟩ | ⟨g, cap, cur, hv, _, hh, hle, _, hsz, htk⟩
      · cases hv
      · injection hv with e _ _
        injection e with e
        injection e with e
        subst e
        obtain ⟨xs, zs, hx, hxl⟩ := qCells_at (fun p hp => (hok.2.2.2.1 p hp).2) hil
        obtain ⟨T, hT⟩ : ∃ T, T = cur.toList.drop (d.q.length * 257) := ⟨_, rfl⟩
        have hcur : cur = ((xs ++ [Value.int .i64 (d.q[i].1 : Int)]) ++ d.q[i].2.map B ++ (zs ++ T)).toArray := by
          apply Array.ext'
          have e1 := List.take_append_drop (d.q.length * 257) cur.toList
          rw [htk, hx, ← hT] at e1
          rw [← e1]
          simp
        rw [hcur] at hh
        have := rangeAt_part hh
        simpa [hxl] using this
    have hi0 : (0 : Int) ≤ (i : Int) := Int.natCast_nonneg _
    have hi1 : (i : Int) < (d.q.length : Int) := by omega
    have HN := Lib.hid hnew
    have HRD := Lib.hid hrd
    clear hnew hrd i0 i1 i2
    go_enter Try.func25, Try.ntmps25
    go_wp2_with (first | (go_at_call 38; refine hh.mono ?_; rintro e w' ⟨rfl, rfl⟩) | (refine wl_load rfl 84 (.tmp 31) rfl ?_; refine ⟨_, _, run_loadAt_mid _ _ _ _ _ _ hr1 Try.underlying84 rfl (size_page_of hpg), ?_⟩; try simp only [Act.put, List.setIfInBounds_toArray, List.set_cons_zero, List.set_cons_succ, List.getElem_toArray, List.getElem_cons_zero, List.getElem_cons_succ]) | (refine wl_store rfl 84 (.tmp 6) (.tmp 32) rfl ?_; refine ⟨_, run_store_page hpg _ (by simp), ?_⟩; try simp only [Act.put, List.setIfInBounds_toArray, List.set_cons_zero, List.set_cons_succ, List.getElem_toArray, List.getElem_cons_zero, List.getElem_cons_succ]) | (refine wl_load rfl 84 (.tmp 49) rfl ?_; refine ⟨_, _, run_loadAt_mid _ _ _ _ _ _ hrq Try.underlying84 rfl (size_page_of hrl), ?_⟩; try simp only [Act.put, List.setIfInBounds_toArray, List.set_cons_zero, List.set_cons_succ, List.getElem_toArray, List.getElem_cons_zero, List.getElem_cons_succ]) | (refine wl_store rfl 84 (.tmp 6) (.tmp 50) rfl ?_; refine ⟨_, run_store_page2 hrl hpg _ (by simp), ?_⟩; try simp only [Act.put, List.setIfInBounds_toArray, List.set_cons_zero, List.set_cons_succ, List.getElem_toArray, List.getElem_cons_zero, List.getElem_cons_succ]) | (refine wl_append_nil rfl (.const (.slice none 0 0)) (.tmp 51) rfl rfl rfl d.q[i].2 hrl (by omega) (rangeAt_all (heap_new_at (by simp))) (by omega) ?_))
    intro cap w4 h1 h2 h3
    go_wp2_with fail
    go_ret2
    refine ⟨w.heap.size + 1, cap, rfl, by omega, ?_, ?_, ?_⟩
    · rw [HRD.out]; exact h1
    · exact (hI.setc { d with reads := wrap64 (d.reads + 1) } 0 _ rfl rfl hok rfl).keeps (((Keeps.refl [] _).alloc _).grown h2 (by simp)) (by simp)
    · exact (HK1.out.alloc _).grown h2 (by simp)
end Go.Proofs.Ytbjffjplpnnhoaa
