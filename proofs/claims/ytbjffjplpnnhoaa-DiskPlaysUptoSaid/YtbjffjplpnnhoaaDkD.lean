/-
  The walk of package disk's Sync.
-/
import Derived.Test.YtbjffjplpnnhoaaDkC
namespace Go.Proofs.Ytbjffjplpnnhoaa
set_option linter.unusedVariables false
set_option linter.unusedSimpArgs false
open Go.RowKit

/-- A page's bytes laid into an image. -/
def setPage (img : List UInt8) (p : Nat) (data : List UInt8) : List UInt8 := img.take (p * 256) ++ data ++ img.drop (p * 256 + data.length)
def synced (img : List UInt8) (q : List (Nat × List UInt8)) : List UInt8 := q.foldl (fun m p => setPage m p.1 p.2) img
theorem setPage_length {img : List UInt8} {p : Nat} {data : List UInt8} (h : p * 256 + data.length ≤ img.length) : (setPage img p data).length = img.length := by simp [setPage]; omega
theorem synced_length {q : List (Nat × List UInt8)} {n : Nat} : ∀ {img : List UInt8}, img.length = 256 * n → (∀ p ∈ q, p.1 < n ∧ p.2.length = 256) → (synced img q).length = 256 * n := by
  induction q with
  | nil => intro img h _; exact h
  | cons x q ih =>
    intro img h hq
    have hx := hq x (by simp)
    refine ih ?_ (fun p hp => hq p (by simp [hp]))
    rw [setPage_length (by omega), h]
theorem synced_snoc (img : List UInt8) (q : List (Nat × List UInt8)) (x : Nat × List UInt8) : synced img (q ++ [x]) = setPage (synced img q) x.1 x.2 := by simp [synced]

/-- Behind the store of a page. -/
theorem DiskIn.setp {w : World} {b : Nat} {d : D} {bp bm : Nat} {qv : Value} (h : DiskIn w b d bp qv bm) (p : Nat) (data : List UInt8) (hp : p < d.n) (hl : data.length = 256) :
    DiskIn (w.setCells bp (p * 256) (data.map B)) b { d with img := setPage d.img p data } bp qv bm := by
  have hk : Keeps [bp] w (w.setCells bp (p * 256) (data.map B)) := (Keeps.refl _ _).setCells (.inl (by simp)) _ _
  obtain ⟨a1, a2, a3, a4⟩ := h.apart
  obtain ⟨o1, o2, o3, o4, o5, o6⟩ := h.ok
  refine ⟨⟨o1, o2, ?_, o4, o5, o6⟩, ?_, ?_, ?_, ?_⟩
  · show (setPage d.img p data).length = _
    rw [setPage_length (by omega), o3]
  · exact (hk.block b (lt_of_heap h.root) (by simpa using a1)).trans h.root
  · rw [heap_setCells_same bp _ _ _ w _ h.pages (by simp; omega)]
    simp [setPage]
  · exact ownsRow_keep h.queue (fun k hq => hk.block k (h.queue.lt k hq).2 (by simpa using Ne.symm (a4 k hq).2.1))
  · exact h.map.keep (hk.block bm h.map.lt (by simpa using Ne.symm a3))

/-- close: the queue is gone, the map is empty. -/
theorem dClose_disk {w : World} {b : Nat} {d : D} {bp bm : Nat} {qv : Value} (hI : DiskIn w b d bp qv bm) :
    Calls Try.prog 37 #[.pointer (some ⟨b, 0, none⟩)] w fun e w' => e = .returned (.tuple #[]) ∧ DiskIn w' b { d with q := [] } bp (.slice none 0 0) bm ∧ Keeps [b, bm] w w' := by
  obtain ⟨c0, c1, c2, c3, c4, c5, c6, c7, c8, c9⟩ := hI.cells
  obtain ⟨a1, a2, a3, a4⟩ := hI.apart
  obtain ⟨o1, o2, o3, o4, o5, o6⟩ := hI.ok
  refine (dClose_any c5 c6 c3 (hI.free 5) (hI.free 3) hI.map a2).mono ?_
  rintro e w' ⟨rfl, w1, hg, hm, rfl⟩
  have hk : Keeps [b, bm] w w1 := ((Keeps.refl _ _).setCell (.inl (by simp)) _).grown hg (fun k hk => .inl (by simp at hk; simp [hk]))
  have hk3 : Keeps [b, bm] w (w1.setCell ⟨b, 3, none⟩ (.int .i64 0)) := hk.setCell (.inl (by simp)) _
  refine ⟨rfl, ⟨⟨o1, o2, o3, by simp, o5, o6⟩, ?_, ?_, ?_, ?_⟩, hk3⟩
  · refine root_set (cs := (dCells d bp qv bm).setIfInBounds 5 (.slice none 0 0)) ?_ 3 _
    rw [hg.block b (by simpa using lt_of_heap hI.root) (by simpa using a2)]
    exact root_set hI.root 5 _
  · exact (hk3.block bp (lt_of_heap hI.pages) (by simp; exact ⟨Ne.symm a1, a3⟩)).trans hI.pages
  · exact World.ownsRow_nil _ _ _ _
  · exact hm.keep (Below.heap_setCell _ _ _ _ (by simpa using Ne.symm a2))

theorem dSync_down {w : World} {b : Nat} (h8 : w.cell? ⟨b, 8, none⟩ = some (.bool true)) :
    Calls Try.prog 13 #[.pointer (some ⟨b, 0, none⟩)] w fun e w' => e = .returned (.int .i64 2) ∧ w = w' := by
  go_enter Try.func13, Try.ntmps13
  go_wp2_with fail
  go_ret
  exact ⟨rfl, rfl⟩
theorem dSync_gone {w : World} {b : Nat} {d : D} {bp bm : Nat} {qv : Value} (hI : DiskIn w b d bp qv bm) (hd : d.dead = false) (ha : d.armed = 1) :
    Calls Try.prog 13 #[.pointer (some ⟨b, 0, none⟩)] w fun e w' => e = .returned (.int .i64 2) ∧ DiskIn w' b d.act bp qv bm ∧ Keeps [b] w w' := by
  obtain ⟨c0, c1, c2, c3, c4, c5, c6, c7, c8, c9⟩ := hI.cells
  rw [hd] at c8
  have hok := hI.ok
  have hc := dAct_any c7 c8 (hI.free 7) (hI.free 8) hok.2.2.2.2.1 hok.2.2.2.2.2
  rw [ha] at hc
  simp only [if_true] at hc
  have HD := Lib.hid hd
  have HA := Lib.hid ha
  clear hd ha
  go_enter Try.func13, Try.ntmps13
  go_wp2_with fail
  refine hc.mono ?_
  rintro e w' ⟨rfl, hw⟩
  have HW := Lib.hid hw
  clear hw
  go_wp2_with fail
  go_ret
  exact ⟨rfl, act_close hI HD.out (by rw [HW.out, HA.out]; simp)⟩
set_option maxRecDepth 100000 in
set_option maxHeartbeats 800000 in
theorem dSync_ok {w : World} {b : Nat} {d : D} {bp bm : Nat} {qv : Value} (hI : DiskIn w b d bp qv bm) (hd : d.dead = false) (ha : d.armed ≠ 1) :
    Calls Try.prog 13 #[.pointer (some ⟨b, 0, none⟩)] w fun e w' => e = .returned (.int .i64 0) ∧ DiskIn w' b { d.act with img := synced d.img d.q, q := [], syncs := wrap64 (d.syncs + 1) } bp (.slice none 0 0) bm ∧ Keeps [b, bp, bm] w w' := by
  obtain ⟨c0, c1, c2, c3, c4, c5, c6, c7, c8, c9⟩ := hI.cells
  rw [hd] at c8
  have hok := hI.ok
  have hc := dAct_any c7 c8 (hI.free 7) (hI.free 8) hok.2.2.2.2.1 hok.2.2.2.2.2
  simp only [if_neg ha] at hc
  have HD := Lib.hid hd
  have HA := Lib.hid ha
  clear hd ha
  go_enter Try.func13, Try.ntmps13
  go_wp2_with fail
  refine hc.mono ?_
  rintro e w1 ⟨rfl, hw⟩
  obtain ⟨hI1, hk1⟩ := act_close hI HD.out hw
  clear hw c0 c1 c2 c3 c4 c5 c6 c7 c8 c9
  obtain ⟨c0, c1, c2, c3, c4, c5, c6, c7, c8, c9⟩ := hI1.cells
  obtain ⟨aq, cq, rfl⟩ := hI.form
  go_wp2_with fail
  have hql := hI.qlen
  have hq6 : ∀ p ∈ d.q, p.2.length = 256 := fun p hp => (hok.2.2.2.1 p hp).2
  go_loopw [20] (fun i wr => ∃ k : Nat, k ≤ d.q.length ∧ i = .int .i64 k ∧ DiskIn wr b { d.act with img := synced d.img (d.q.take k) } bp (.slice aq d.q.length cq) bm ∧ Keeps [b, bp] w wr) (fun i _ => d.q.length - (intOf i).toNat)
  case atStart =>
    refine ⟨0, Nat.zero_le _, rfl, ?_, hk1.mono (by simp)⟩
    have e : ({ d.act with img := synced d.img (d.q.take 0) } : D) = d.act := by simp [synced, ← D.act_img d]
    rw [e]
    exact hI1
  case round =>
    obtain ⟨k, hk, rfl, hIr, hkr⟩ := hrel
    clear c0 c1 c2 c3 c4 c5 c6 c7 c8 c9
    obtain ⟨c0, c1, c2, c3, c4, c5, c6, c7, c8, c9⟩ := hIr.cells
    simp only [D.act_n] at c4
    by_cases hlt : k < d.q.length
    · obtain ⟨gq, rfl⟩ : ∃ gq, aq = some ⟨gq, 0, none⟩ := by
        rcases hI.queue.2 with ⟨_, h0⟩ | ⟨g, cap, cur, hv, _⟩
        · omega
        · injection hv with e _ _
          exact ⟨g, e⟩
      have hrange := queue_range (q := d.q) (by have := hIr.queue; simpa [D.act_q] using this) hq6 hlt
      have hpn := (hok.2.2.2.1 _ (List.getElem_mem hlt)).1
      have hpl := (hok.2.2.2.1 _ (List.getElem_mem hlt)).2
      obtain ⟨data, hdata⟩ : ∃ data, data = d.q[k].2 := ⟨_, rfl⟩
      obtain ⟨p, hp⟩ : ∃ p, p = d.q[k].1 := ⟨_, rfl⟩
      rw [← hdata, ← hp] at hrange
      rw [← hp] at hpn
      rw [← hdata] at hpl
      have HQ := Lib.hid hdata
      have HP := Lib.hid hp
      clear hdata hp
      obtain ⟨wl, hwl⟩ : ∃ wl, wl = Value.int .i64 (p : Int) :: data.map B := ⟨_, rfl⟩
      rw [← hwl] at hrange
      have hwl0 : wl.length = 257 := by rw [hwl]; simp [hpl]
      have hwl1 : ∀ v ∈ wl, v.oneCell' = true := by
        rw [hwl]
        intro u hu'
        rcases List.mem_cons.1 hu' with rfl | hu'
        · rfl
        · exact B_one data u hu'
      have hbl := lt_of_heap hIr.root
      have hbpl := lt_of_heap hIr.pages
      have hbox : ((wr.alloc (.cells wl.toArray 86)).heap[wr.heap.size]? = some (.cells wl.toArray 86 (0, 0))) := heap_new_at rfl
      have hcell0 : (wr.alloc (.cells wl.toArray 86)).cell? ⟨wr.heap.size, 0, none⟩ = some (.int .i64 (p : Int)) := by rw [cell_of_row _ _ _ _ _ _ hbox, hwl]; rfl
      have hrd : (wr.alloc (.cells wl.toArray 86)).rangeAt wr.heap.size 1 (data.map B) := by
        rw [show wl = [Value.int .i64 (p : Int)] ++ data.map B ++ [] by rw [hwl]; simp]
        exact rangeAt_part (heap_new_at rfl)
      have hth : (wr.alloc (.cells wl.toArray 86)).there bp (p * 256) (data.map B).length := by
        refine there_of_heap (w := wr) (there_all hIr.pages _ _ ?_) (heap_old_at hbpl)
        have := hIr.ok.2.2.1
        simp only [D.act_n] at this
        simp only [List.length_map, this, hpl]
        omega
      have hc4 : (wr.alloc (.cells wl.toArray 86)).cell? ⟨b, 4, none⟩ = some (.slice (some ⟨bp, 0, none⟩) d.n d.n) := (World.cell?_alloc_lt _ _ ⟨b, 4, none⟩ hbl).trans c4
      have HWL := Lib.hid hwl
      clear hwl hbox
      have hp0 : (0 : Int) ≤ (p : Int) := Int.natCast_nonneg _
      have hp1 : (p : Int) < (d.n : Int) := by omega
      have hk0 : (0 : Int) ≤ (k : Int) := Int.natCast_nonneg _
      have hk1' : (k : Int) < (d.q.length : Int) := by omega
      go_wp2_with (first | (refine wl_load rfl 86 (.tmp 22) rfl ?_; refine ⟨_, _, run_loadAt_mid _ _ _ _ _ _ hrange Try.underlying86 rfl (by rw [size_write, hwl0]), ?_⟩; try simp only [Act.put, List.setIfInBounds_toArray, List.set_cons_zero, List.set_cons_succ, List.getElem_toArray, List.getElem_cons_zero, List.getElem_cons_succ]) | (refine wl_store rfl 86 (.tmp 5) (.tmp 23) rfl ?_; refine ⟨_, run_store_w hwl0 hwl1 _ (by simp), ?_⟩; try simp only [Act.put, List.setIfInBounds_toArray, List.set_cons_zero, List.set_cons_succ, List.getElem_toArray, List.getElem_cons_zero, List.getElem_cons_succ]))
      have s4 : ∀ W : World, (W.setCells bp (p * 256) (data.map B)).cell? ⟨b, 4, none⟩ = W.cell? ⟨b, 4, none⟩ := fun W => World.cell?_setCells_out bp _ _ W _ (fun e _ => absurd e hI.apart.1)
      have s0 : ∀ W : World, (W.setCells bp (p * 256) (data.map B)).cell? ⟨wr.heap.size, 0, none⟩ = W.cell? ⟨wr.heap.size, 0, none⟩ := fun W => World.cell?_setCells_out bp _ _ W _ (fun e _ => absurd (show wr.heap.size = bp from e) (by omega))
      have hu := Try.underlying84
      have hi : (Try.prog.info? 84).map (·.size) = some (data.map B).length := size_page_of hpl
      have hl1 : ∀ v ∈ data.map B, v.oneCell' = true := B_one data
      go_region_held3 (fun w' => w'.cell? ⟨b, 4, none⟩ = some (.slice (some ⟨bp, 0, none⟩) d.n d.n) ∧ w'.cell? ⟨wr.heap.size, 0, none⟩ = some (.int .i64 (p : Int)) ∧ w'.rangeAt wr.heap.size 1 (data.map B) ∧ w'.there bp (p * 256) (data.map B).length) ((go_split_ands; refine ⟨?_, ?_, ?_, ?_⟩ <;> first | go_keep_ranges | go_keep)) (fail)
      go_wp2_with fail
      go_roundw
      case rel =>
        refine ⟨k + 1, by omega, by go_num, ?_, ?_⟩
        · have hIs := ((hIr.keeps (w' := (wr.alloc (.cells wl.toArray 86)).drew) (((Keeps.refl [] _).alloc _).drew) (by simp)).setp p data (by simpa [D.act_n] using hpn) hpl)
          have e : synced d.img (d.q.take (k + 1)) = setPage (synced d.img (d.q.take k)) p data := by
            rw [List.take_succ_eq_append_getElem hlt, synced_snoc, HQ.out, HP.out]
          rw [e]
          exact hIs
        · exact ((hkr.alloc _).drew).setCells (.inl (by simp)) _ _
      case measure => simp [intOf]; omega
    · have f2 := hIr.free 2
      go_wp2_with fail
      have hIs := hIr.setc { d.act with img := synced d.img (d.q.take k), syncs := wrap64 (d.act.syncs + 1) } 2 (.int .i64 (wrap64 (d.act.syncs + 1))) rfl rfl hIr.ok rfl
      refine (dClose_disk hIs).mono ?_
      rintro e w2 ⟨rfl, hI2, hk2⟩
      go_wp2_with fail
      go_ret
      refine ⟨rfl, ?_, ?_⟩
      · have e : d.q.take k = d.q := List.take_of_length_le (by omega)
        rw [e] at hI2
        simpa [D.act_syncs] using hI2
      · exact ((hkr.mono (G := [b, bp, bm]) (by simp)).setCell (.inl (by simp)) _).trans hk2 (by simp)
end Go.Proofs.Ytbjffjplpnnhoaa
