/-
  The walk of package disk's Crash.
-/
import Derived.Test.YtbjffjplpnnhoaaDkD
namespace Go.Proofs.Ytbjffjplpnnhoaa
set_option linter.unusedVariables false
set_option linter.unusedSimpArgs false
open Go.RowKit

/-- Some bytes laid into an image. -/
def setAt (img : List UInt8) (o : Nat) (l : List UInt8) : List UInt8 := img.take o ++ l ++ img.drop (o + l.length)
def fateBit (f : UInt8) (j : Nat) : Bool := bits BinOp.and IntKind.u8 ((f.toNat : Int) / 2 ^ j) 1 == 1
/-- One sector of one open write. -/
def sect (img : List UInt8) (p : Nat) (data : List UInt8) (f : UInt8) (j : Nat) : List UInt8 := if fateBit f j then setAt img (p * 256 + j * 64) ((data.drop (j * 64)).take 64) else img
def sects (img : List UInt8) (p : Nat) (data : List UInt8) (f : UInt8) (k : Nat) : List UInt8 := (List.range k).foldl (fun m j => sect m p data f j) img
def crashed (img : List UInt8) (q : List (Nat × List UInt8)) (fates : List UInt8) : List UInt8 := (q.zip fates).foldl (fun m x => sects m x.1.1 x.1.2 x.2 4) img

theorem setAt_length {img : List UInt8} {o : Nat} {l : List UInt8} (h : o + l.length ≤ img.length) : (setAt img o l).length = img.length := by simp [setAt]; omega
set_option maxRecDepth 4000 in
theorem sect_length {img : List UInt8} {p : Nat} {data : List UInt8} {f : UInt8} {j : Nat} (h : p * 256 + 256 ≤ img.length) (hj : j < 4) : (sect img p data f j).length = img.length := by
  unfold sect
  split
  · refine setAt_length ?_
    have : ((data.drop (j * 64)).take 64).length ≤ 64 := List.length_take_le _ _
    omega
  · rfl
theorem sects_succ (img : List UInt8) (p : Nat) (data : List UInt8) (f : UInt8) (k : Nat) : sects img p data f (k + 1) = sect (sects img p data f k) p data f k := by simp [sects, List.range_succ]
theorem sects_length {img : List UInt8} {p : Nat} {data : List UInt8} {f : UInt8} {k : Nat} (h : p * 256 + 256 ≤ img.length) (hk : k ≤ 4) : (sects img p data f k).length = img.length := by
  induction k with
  | zero => rfl
  | succ k ih =>
    have := ih (by omega)
    rw [sects_succ, sect_length (by omega) (by omega), this]
theorem crashed_snoc (img : List UInt8) (q : List (Nat × List UInt8)) (fates : List UInt8) (k : Nat) (hq : k < q.length) (hf : k < fates.length) :
    crashed img (q.take (k + 1)) (fates.take (k + 1)) = sects (crashed img (q.take k) (fates.take k)) q[k].1 q[k].2 fates[k] 4 := by
  rw [List.take_succ_eq_append_getElem hq, List.take_succ_eq_append_getElem hf]
  unfold crashed
  rw [List.zip_append (by simp; omega)]
  simp
theorem crashed_take (img : List UInt8) (q : List (Nat × List UInt8)) (fates : List UInt8) (m : Nat) (h : m = min q.length fates.length) : crashed img (q.take m) (fates.take m) = crashed img q fates := by
  subst h
  unfold crashed
  congr 1
  exact (List.zip_eq_zip_take_min).symm

/-- Behind the store of some bytes within a page. -/
theorem DiskIn.seta {w : World} {b : Nat} {d : D} {bp bm : Nat} {qv : Value} (h : DiskIn w b d bp qv bm) (o : Nat) (l : List UInt8) (hl : o + l.length ≤ d.img.length) :
    DiskIn (w.setCells bp o (l.map B)) b { d with img := setAt d.img o l } bp qv bm := by
  have hk : Keeps [bp] w (w.setCells bp o (l.map B)) := (Keeps.refl _ _).setCells (.inl (by simp)) _ _
  obtain ⟨a1, a2, a3, a4⟩ := h.apart
  obtain ⟨o1, o2, o3, o4, o5, o6⟩ := h.ok
  refine ⟨⟨o1, o2, ?_, o4, o5, o6⟩, ?_, ?_, ?_, ?_⟩
  · show (setAt d.img o l).length = _
    rw [setAt_length hl, o3]
  · exact (hk.block b (lt_of_heap h.root) (by simpa using a1)).trans h.root
  · rw [heap_setCells_same bp _ _ _ w _ h.pages (by simp; omega)]
    simp [setAt]
  · exact ownsRow_keep h.queue (fun k hq => hk.block k (h.queue.lt k hq).2 (by simpa using Ne.symm (a4 k hq).2.1))
  · exact h.map.keep (hk.block bm h.map.lt (by simpa using Ne.symm a3))

/-- .. of the block as a whole. -/
theorem DiskIn.setr {w : World} {b : Nat} {d : D} {bp bm : Nat} {qv : Value} (h : DiskIn w b d bp qv bm) (img : List UInt8) (hl : img.length = d.img.length) :
    DiskIn (w.setRow bp (img.map B).toArray) b { d with img } bp qv bm ∧ Keeps [bp] w (w.setRow bp (img.map B).toArray) := by
  have hk : Keeps [bp] w (w.setRow bp (img.map B).toArray) := ⟨rfl, rfl, rfl, by simp, fun k _ hn => setRow_other w bp k _ (by simpa using hn)⟩
  obtain ⟨a1, a2, a3, a4⟩ := h.apart
  obtain ⟨o1, o2, o3, o4, o5, o6⟩ := h.ok
  refine ⟨⟨⟨o1, o2, hl.trans o3, o4, o5, o6⟩, ?_, ?_, ?_, ?_⟩, hk⟩
  · exact (hk.block b (lt_of_heap h.root) (by simpa using a1)).trans h.root
  · exact setRow_heap w bp _ _ _ _ h.pages
  · exact ownsRow_keep h.queue (fun k hq => hk.block k (h.queue.lt k hq).2 (by simpa using Ne.symm (a4 k hq).2.1))
  · exact h.map.keep (hk.block bm h.map.lt (by simpa using Ne.symm a3))
theorem run_copy_bytes {W : World} {g go o so n c1 c2 : Nat} {t : TypeId} {img l : List UInt8} (hp : W.heap[g]? = some (.cells (img.map B).toArray t (0, 0))) (hs : W.rangeAt go so (l.map B)) (hl : l.length = n) (ho : o + n ≤ img.length) (ty : TypeId) :
    (Builtin.copy_ #[29, 29] ty #[.slice (some ⟨g, o, none⟩) n c1, .slice (some ⟨go, so, none⟩) n c2]).run Try.prog W = .ok (.int .i64 n) (W.setRow g ((setAt img o l).map B).toArray) := by
  have := run_copy_row (P := Try.prog) W 29 29 ty 5 g o n c1 ⟨go, so, none⟩ n c2 (img.map B).toArray t (l.map B) Try.underlying29 (by kernel_rfl) hp (by simp [hl])
    (fun j v hv => by rw [Addr.add_mid]; exact hs j v hv) (by simp [hl]; omega) (B_one l)
  rw [this]
  simp [goInt, hl, setAt]

set_option maxRecDepth 100000 in
set_option maxHeartbeats 800000 in
theorem dCrash_ok {w : World} {b : Nat} {d : D} {bp bm : Nat} {qv fv : Value} {fates : List UInt8} (hI : DiskIn w b d bp qv bm) (hf : BytesAt w fv fates) (hfd : ∀ k, fv.elemBlock = some k → k ≠ b ∧ k ≠ bp ∧ k ≠ bm) :
    Calls Try.prog 15 #[.pointer (some ⟨b, 0, none⟩), fv] w fun e w' => e = .returned (.int .i64 d.q.length) ∧
      DiskIn w' b { d with img := crashed d.img d.q fates, q := [], armed := 0, dead := false, epoch := wrap64 (d.epoch + 1) } bp (.slice none 0 0) bm ∧ Keeps [b, bp, bm] w w' := by
  obtain ⟨c0, c1, c2, c3, c4, c5, c6, c7, c8, c9⟩ := hI.cells
  have hok := hI.ok
  have hql := hI.qlen
  obtain ⟨aq, cq, rfl⟩ := hI.form
  obtain ⟨fa, fc, rfl, hfl, hfm⟩ := hf.form
  unfold maxLen at hfm
  obtain ⟨hqc, hqm⟩ := hI.qcap
  have hqc' : (d.q.length : Int) ≤ (cq : Int) := by omega
  have f8 := hI.free 8
  by_cases hcase : fates.length < d.q.length
  all_goals
    go_enter Try.func15, Try.ntmps15
    go_wp2_with fail
    go_loopw [26] (fun i wr => ∃ k : Nat, k ≤ d.q.length ∧ k ≤ fates.length ∧ i = .int .i64 k ∧ DiskIn wr b { d with img := crashed d.img (d.q.take k) (fates.take k) } bp (.slice aq d.q.length cq) bm ∧ Keeps [b, bp] w wr) (fun i _ => d.q.length - (intOf i).toNat)
    case atStart =>
      refine ⟨0, Nat.zero_le _, Nat.zero_le _, rfl, ?_, Keeps.refl _ _⟩
      simpa [crashed] using hI
    case round =>
      obtain ⟨wo, rfl⟩ : ∃ wo : World, wo = wr := ⟨_, rfl⟩
      obtain ⟨k, hkq, hkf, rfl, hIr, hkr⟩ := hrel
      clear c0 c1 c2 c3 c4 c5 c6 c7 c8 c9
      obtain ⟨c0, c1, c2, c3, c4, c5, c6, c7, c8, c9⟩ := hIr.cells
      simp only at c0 c1 c2 c3 c4 c5 c6 c7 c8 c9
      by_cases hlt : k < d.q.length ∧ k < fates.length
      · obtain ⟨hlq, hlf⟩ := hlt
        obtain ⟨gq, rfl⟩ : ∃ gq, aq = some ⟨gq, 0, none⟩ := by
          rcases hI.queue.2 with ⟨_, h0⟩ | ⟨g, cap, cur, hv, _⟩
          · omega
          · injection hv with e _ _
            exact ⟨g, e⟩
        obtain ⟨gf, fo, rfl, hgf, hfr⟩ : ∃ gf fo, fa = some ⟨gf, fo, none⟩ ∧ gf < w.heap.size ∧ w.rangeAt gf fo (fates.map B) := by
          rcases hf with ⟨h0, _⟩ | ⟨g, o, cap, hv, _, _, h3, h4⟩
          · subst h0; simp at hlf
          · injection hv with e _ _
            exact ⟨g, o, e, h3, h4⟩
        have heb : (Value.slice (some ⟨gf, fo, none⟩) fates.length fc).elemBlock = some gf := by
          obtain ⟨nn, hnn⟩ : ∃ nn, fates.length = nn + 1 := ⟨fates.length - 1, by omega⟩
          rw [hnn]; rfl
        have hrange := queue_range (q := d.q) hIr.queue (fun p hp => (hok.2.2.2.1 p hp).2) hlq
        have hpn := (hok.2.2.2.1 _ (List.getElem_mem hlq)).1
        have hpl := (hok.2.2.2.1 _ (List.getElem_mem hlq)).2
        have hff : w.cell? ⟨gf, fo + k, none⟩ = some (B fates[k]) := hfr k _ (by simp [hlf])
        obtain ⟨data, hdata⟩ : ∃ data, data = d.q[k].2 := ⟨_, rfl⟩
        obtain ⟨p, hp⟩ : ∃ p, p = d.q[k].1 := ⟨_, rfl⟩
        obtain ⟨f, hff'⟩ : ∃ f, f = fates[k] := ⟨_, rfl⟩
        rw [← hff'] at hff
        rw [← hdata, ← hp] at hrange
        rw [← hp] at hpn
        rw [← hdata] at hpl
        have HQ := Lib.hid hdata
        have HP := Lib.hid hp
        have HF := Lib.hid hff'
        clear hdata hp hff'
        obtain ⟨wl, hwl⟩ : ∃ wl, wl = Value.int .i64 (p : Int) :: data.map B := ⟨_, rfl⟩
        rw [← hwl] at hrange
        have hwl0 : wl.length = 257 := by rw [hwl]; simp [hpl]
        have hwl1 : ∀ v ∈ wl, v.oneCell' = true := by
          rw [hwl]
          intro u hu'
          rcases List.mem_cons.1 hu' with rfl | hu'
          · rfl
          · exact B_one data u hu'
        have hbl := lt_of_heap hIr.root
        have hbpl := lt_of_heap hIr.pages
        have hp0 : (0 : Int) ≤ (p : Int) := Int.natCast_nonneg _
        have hp1 : (p : Int) < (d.n : Int) := by omega
        have hk0 : (0 : Int) ≤ (k : Int) := Int.natCast_nonneg _
        have hk1' : (k : Int) < (d.q.length : Int) := by omega
        have hk2' : (k : Int) < (fates.length : Int) := by omega
        have HWL := Lib.hid hwl
        clear hwl
        go_wp2_with (first | (refine wl_load rfl 86 (.tmp 29) rfl ?_; refine ⟨_, _, run_loadAt_mid _ _ _ _ _ _ hrange Try.underlying86 rfl (by rw [size_write, hwl0]), ?_⟩; try simp only [Act.put, List.setIfInBounds_toArray, List.set_cons_zero, List.set_cons_succ, List.getElem_toArray, List.getElem_cons_zero, List.getElem_cons_succ]) | (refine wl_store rfl 86 (.tmp 7) (.tmp 30) rfl ?_; refine ⟨_, run_store_w hwl0 hwl1 _ (by simp), ?_⟩; try simp only [Act.put, List.setIfInBounds_toArray, List.set_cons_zero, List.set_cons_succ, List.getElem_toArray, List.getElem_cons_zero, List.getElem_cons_succ]))
        obtain ⟨wb, hwb⟩ : ∃ wb : World, wb = wo.alloc (.cells wl.toArray 86) := ⟨_, rfl⟩
        obtain ⟨bx, hbx⟩ : ∃ bx : Nat, bx = wo.heap.size := ⟨_, rfl⟩
        rw [← hwb, ← hbx]
        have kb : Keeps [] wo wb := by rw [hwb]; exact (Keeps.refl _ _).alloc _
        have hbxh : wb.heap[bx]? = some (.cells wl.toArray 86 (0, 0)) := by rw [hwb, hbx]; exact heap_new_at rfl
        have hsw : w.heap.size ≤ wo.heap.size := hkr.size
        have HWB := Lib.hid hwb
        have HBX := Lib.hid hbx
        have hbxl : wo.heap.size ≤ bx := by omega
        have hbxl2 : bx < wb.heap.size := lt_of_heap hbxh
        have HBH := Lib.hid hbxh
        clear hwb hbx hbxh c0 c1 c2 c3 c4 c5 c6 c7 c8 c9
        go_loopw [31] (fun i wi => ∃ j : Nat, j ≤ 4 ∧ i = .int .i64 j ∧ DiskIn wi b { d with img := sects (crashed d.img (d.q.take k) (fates.take k)) p data f j } bp (.slice (some ⟨gq, 0, none⟩) d.q.length cq) bm ∧ Keeps [bp] wb wi) (fun i _ => 4 - (intOf i).toNat)
        case atStart =>
          refine ⟨0, by omega, rfl, ?_, Keeps.refl _ _⟩
          exact hIr.keeps kb (by simp)
        case round =>
          obtain ⟨j, hj, rfl, hIi, hki⟩ := hrel
          by_cases hj4 : j < 4
          · have hfc : wr.cell? ⟨gf, fo + k, none⟩ = some (.int .u8 f.toNat) := by
              have e1 : wo.heap[gf]? = w.heap[gf]? := hkr.block gf hgf (by have := hfd gf heb; simp; exact ⟨this.1, this.2.1⟩)
              have e2 : wb.heap[gf]? = wo.heap[gf]? := kb.block gf (by omega) (by simp)
              have e3 : wr.heap[gf]? = wb.heap[gf]? := hki.block gf (by have := kb.size; omega) (by have := hfd gf heb; simp; exact this.2.1)
              rw [World.cell?_of_block (w := w) (w' := wr) (a := ⟨gf, fo + k, none⟩) (e3.trans (e2.trans e1))]
              exact hff
            have hj0 : (0 : Int) ≤ (j : Int) := Int.natCast_nonneg _
            have hj1 : (j : Int) < 4 := by omega
            obtain ⟨c0, c1, c2, c3, c4, c5, c6, c7, c8, c9⟩ := hIi.cells
            simp only at c0 c1 c2 c3 c4 c5 c6 c7 c8 c9
            have hb0 : wr.heap[bx]? = some (.cells wl.toArray 86 (0, 0)) := (hki.block bx hbxl2 (by simp; omega)).trans HBH.out
            have hb1 : wr.cell? ⟨bx, 0, none⟩ = some (.int .i64 (p : Int)) := by rw [cell_of_row _ _ _ _ _ _ hb0, HWL.out]; rfl
            have b1 : (0 : Int) ≤ (j : Int) * 64 := by omega
            have b2 : (j : Int) * 64 ≤ ((j : Int) + 1) * 64 := by omega
            have b3 : ((j : Int) + 1) * 64 ≤ 256 := by omega
            clear hfd heb
            cases hbit0 : fateBit f j
            case false =>
              have hbit : (bits BinOp.and IntKind.u8 ((f.toNat : Int) / 2 ^ j) 1 == 1) = false := hbit0
              have eJ : sects (crashed d.img (d.q.take k) (fates.take k)) p data f (j + 1) = sects (crashed d.img (d.q.take k) (fates.take k)) p data f j := by rw [sects_succ, sect, if_neg (by simp [hbit0])]
              have HE := Lib.hid eJ
              clear hbit0 eJ hb0
              go_wp2_with fail
              go_roundw
              case rel =>
                refine ⟨j + 1, by omega, by go_num, ?_, hki⟩
                rw [HE.out]
                exact hIi
              case measure => simp [intOf]; omega
            case true =>
              have hbit : (bits BinOp.and IntKind.u8 ((f.toNat : Int) / 2 ^ j) 1 == 1) = true := hbit0
              obtain ⟨seg, hseg⟩ : ∃ seg, seg = (data.drop (j * 64)).take 64 := ⟨_, rfl⟩
              have hsegl : seg.length = 64 := by rw [hseg]; simp; omega
              have hsegr : wr.drew.rangeAt bx (1 + j * 64) (seg.map B) := by
                have hxx : wl = (Value.int .i64 (p : Int) :: (data.take (j * 64)).map B) ++ seg.map B ++ ((data.drop (j * 64)).drop 64).map B := by
                  rw [HWL.out, hseg, List.cons_append, List.cons_append, ← List.map_append, ← List.map_append, List.append_assoc, List.take_append_drop, List.take_append_drop]
                rw [hxx] at hb0
                have := rangeAt_part hb0
                rw [List.length_cons, List.length_map, List.length_take, hpl, show min (j * 64) 256 + 1 = 1 + j * 64 from by omega] at this
                exact this
              have hil : p * 256 + j * 64 + 64 ≤ (sects (crashed d.img (List.take k d.q) (List.take k fates)) p data f j).length := by
                have := hIi.ok.2.2.1
                simp only at this
                omega
              obtain ⟨J, hJ⟩ : ∃ J, J = j + 1 := ⟨_, rfl⟩
              have eJ : sects (crashed d.img (d.q.take k) (fates.take k)) p data f J = setAt (sects (crashed d.img (d.q.take k) (fates.take k)) p data f j) (p * 256 + j * 64) seg := by rw [hJ, sects_succ, sect, if_pos hbit0, hseg]
              have HE := Lib.hid eJ
              have HJ := Lib.hid hJ
              have hbbp := hI.apart.1
              have hcopy := fun (c1 c2 : Nat) (ty : TypeId) => run_copy_bytes (c1 := c1) (c2 := c2) (hIi.keep (w' := wr.drew) (fun _ _ => rfl)).pages hsegr hsegl hil ty
              have hset := (hIi.keep (w' := wr.drew) (fun _ _ => rfl)).setr (setAt (sects (crashed d.img (d.q.take k) (fates.take k)) p data f j) (p * 256 + j * 64) seg) (setAt_length (by rw [hsegl]; exact hil))
              have HSET := Lib.hid hset
              have HSEG := Lib.hid hseg
              have HBIT := Lib.hid hbit0
              clear hbit0 hseg hJ hset eJ hb0
              go_wp2_with fail
              obtain rfl | rfl | rfl | rfl : j = 0 ∨ j = 1 ∨ j = 2 ∨ j = 3 := by omega
              all_goals
                simp only [Nat.reduceMul, Nat.reduceAdd, Nat.add_zero] at hcopy
                go_region_held3 (fun w' => w'.cell? ⟨b, 4, none⟩ = some (.slice (some ⟨bp, 0, none⟩) d.n d.n) ∧ w'.cell? ⟨bx, 0, none⟩ = some (.int .i64 (p : Int))) (first | go_keep | (refine ⟨?_, ?_⟩ <;> (rw [cell_setRow_other _ _ _ _ (by simp; omega)]; assumption)))
                  ((refine st_builtin rfl .copy #[.tmp 56, .tmp 60] #[29, 29] rfl ?_; refine ⟨_, _, run_builtin_copy (hcopy _ _ _), ?_⟩; try simp only [Act.put, List.setIfInBounds_toArray, List.set_cons_zero, List.set_cons_succ, List.getElem_toArray, List.getElem_cons_zero, List.getElem_cons_succ]))
                go_wp2_with fail
                have hJ := HJ.out
                have hset := HSET.out
                have eJ := HE.out
                simp only [Nat.reduceMul, Nat.add_zero] at hset eJ
                refine ⟨⟨J, by omega, by rw [hJ]; rfl, ?_, ?_⟩, by simp [intOf]⟩
                · rw [eJ]
                  exact hset.1
                · exact (hki.drew).trans hset.2 (by simp)
          · have ek : crashed d.img (d.q.take (k + 1)) (fates.take (k + 1)) = sects (crashed d.img (d.q.take k) (fates.take k)) p data f j := by
              rw [crashed_snoc _ _ _ k hlq hlf, HP.out, HQ.out, HF.out, show j = 4 from by omega]
            have HE := Lib.hid ek
            clear ek hfd heb
            go_wp2_with fail
            go_roundw
            case rel =>
              refine ⟨k + 1, by omega, by omega, by go_num, ?_, ?_⟩
              · rw [HE.out]; exact hIi
              · exact (hkr.trans kb (by simp)).trans hki (by simp)
            case measure => simp [intOf]; omega
      · have ek : crashed d.img (d.q.take k) (fates.take k) = crashed d.img d.q fates := crashed_take _ _ _ _ (by omega)
        have f7 := hIr.free 7
        have f8' := hIr.free 8
        have f9 := hIr.free 9
        have HE := Lib.hid ek
        clear ek hfd
        go_wp2_with fail
        refine (dClose_disk hIr).mono ?_
        rintro e w2 ⟨rfl, hI2, hk2⟩
        obtain ⟨e0, e1, e2, e3, e4, e5, e6, e7, e8, e9⟩ := hI2.cells
        simp only at e7 e8 e9
        have g7 := hI2.free 7
        have g8 := hI2.free 8
        have g9 := hI2.free 9
        clear e0 e1 e2 e3 e4 e5 e6
        go_wp2_with fail
        go_ret
        rw [HE.out] at hI2
        obtain ⟨o1, o2, o3, o4, o5, o6⟩ := hI2.ok
        have s1 := hI2.setc { d with img := crashed d.img d.q fates, q := [], dead := false } 8 (.bool false) rfl rfl ⟨o1, o2, o3, o4, o5, o6⟩ rfl
        have s2 := s1.setc { d with img := crashed d.img d.q fates, q := [], dead := false, armed := 0 } 7 (.int .i64 0) rfl rfl ⟨o1, o2, o3, o4, by simp, by simp⟩ rfl
        have s3 := s2.setc { d with img := crashed d.img d.q fates, q := [], dead := false, armed := 0, epoch := wrap64 (d.epoch + 1) } 9 (.int .i64 (wrap64 (d.epoch + 1))) rfl rfl ⟨o1, o2, o3, o4, by simp, by simp⟩ rfl
        refine ⟨rfl, s3, ?_⟩
        have k3 : Keeps [b, bp, bm] w w2 := (hkr.mono (G := [b, bp, bm]) (by simp)).trans hk2 (by simp)
        exact ((k3.setCell (.inl (by simp)) _).setCell (.inl (by simp)) _).setCell (.inl (by simp)) _
end Go.Proofs.Ytbjffjplpnnhoaa
