/-
  The Book of layer 4's law: keep.
-/
import Derived.Test.YtbjffjplpnnhoaaBkA
namespace Go.Proofs.Ytbjffjplpnnhoaa
set_option linter.unusedVariables false
set_option linter.unusedSimpArgs false
open Go.RowKit

set_option maxRecDepth 100000 in
set_option maxHeartbeats 4000000 in
theorem lKeep_any {w : World} {b : Nat} {k : Bk} (hroot : BkAt w b k) {gs : List Grp} (hg : QOwn w 104 4 k.gv gs.length (gs.flatMap Grp.cells)) (hgl : gs.length ≤ 64) (hgs : ∀ g ∈ gs, g.isS) {v : Value} {l : List UInt8} (hv : OwnB w v l) (hl : l.length ≤ 16777216)
    (hn1 : k.gv.ownBlock ≠ some b) (hn2 : v.ownBlock ≠ some b) (hn3 : ∀ j, k.gv.ownBlock = some j → v.ownBlock ≠ some j) :
    Calls Try.prog 46 #[.pointer (some ⟨b, 2, none⟩), v] w fun e w' => e = .returned (.tuple #[]) ∧ ∃ gv' size' G j, BkAt w' b { k with gv := gv', size := size', next := wrap64 (k.next + 1) } ∧ j ≤ gs.length ∧ ((gs ++ [G]).drop j).length ≤ 64 ∧
      QOwn w' 104 4 gv' ((gs ++ [G]).drop j).length (((gs ++ [G]).drop j).flatMap Grp.cells) ∧ G.ok w' ∧ G.isS ∧ (∀ i ∈ G.foot, v.ownBlock = some i ∨ w.heap.size ≤ i) ∧ (∀ i, gv'.ownBlock = some i → (k.gv.ownBlock = some i ∨ w.heap.size ≤ i) ∧ i ∉ G.foot) ∧
      Keeps (b :: (k.gv.ownBlock.toList ++ v.ownBlock.toList)) w w' := by
  have HGS := Lib.hid hgs
  clear hgs
  obtain ⟨c0, c1, c2, c3, c4, c5, c6, c7, c8, c9⟩ := hroot.at
  have f4 := hroot.free 4
  obtain ⟨av, cv, rfl⟩ := owns_slice' hv
  obtain ⟨L, hL⟩ : ∃ L, L = l.length := ⟨_, rfl⟩
  obtain ⟨w1, hw1⟩ : ∃ w1, w1 = w.setCell ⟨b, 4, none⟩ (.int .i64 (wrap64 (k.next + 1))) := ⟨_, rfl⟩
  have hB1 : BkAt w1 b { k with next := wrap64 (k.next + 1) } := by rw [hw1]; exact hroot.set 4 _ rfl
  have hk1 : Keeps [b] w w1 := by rw [hw1]; exact (Keeps.refl _ _).setCell (.inl (by simp)) _
  have hv1 : OwnB w1 (.slice av l.length cv) l := ownsRow_keep hv (fun j hj => hk1.block j (World.ownsRow.lt hv j hj).2 (by simp; rintro rfl; exact hn2 hj))
  have hg1 := hg.keep (w' := w1) (fun j hj => hk1.block j (hg.lt j hj) (by simp; rintro rfl; exact hn1 hj))
  have HB1 := Lib.hid hB1
  have HK1 := Lib.hid hk1
  have HV1 := Lib.hid hv1
  have HG1 := Lib.hid hg1
  have hs1 := hk1.size
  have HN1 := Lib.hid hn1
  have HN2 := Lib.hid hn2
  have HN3 := Lib.hid hn3
  obtain ⟨n, hn⟩ : ∃ n, n = k.next := ⟨_, rfl⟩
  rw [← hn] at c4 hw1
  rw [← hL] at hl ⊢
  have HL := Lib.hid hL
  have HNX := Lib.hid hn
  have HW1 := Lib.hid hw1
  clear hB1 hk1 hv1 hg1 hw1 hn1 hn2 hn3 hv hg hroot hL c0 c1 c2 c3 c5 c6 c7 c8 c9 hs1 hn
  go_enter Try.func46, Try.ntmps46
  go_wp2_with fail
  rw [← HW1.out]
  go_loopw [5] (fun i wr => ∃ x : Nat, x ≤ L ∧ i = .int .i64 x ∧ OwnB wr (.slice av L cv) (marks n x ++ l.drop x) ∧ Keeps (Value.slice av L cv).ownBlock.toList w1 wr) (fun i _ => L - (intOf i).toNat)
  case atStart => exact ⟨0, Nat.zero_le _, rfl, by simpa [marks, HL.out] using HV1.out, Keeps.refl _ _⟩
  case round =>
    obtain ⟨x, hx, rfl, hO, hkr⟩ := hrel
    have x0 : (0 : Int) ≤ (x : Int) := by omega
    by_cases hlt : x < L
    · have hll : (marks n x ++ l.drop x).length = L := by rw [List.length_append, marks_length, List.length_drop, ← HL.out]; omega
      obtain ⟨g, rfl⟩ := own_at hO (by omega)
      have hxl : x < (marks n x ++ l.drop x).length := by omega
      have f1 := hO.cell x hxl
      have f2 := hO.free x
      obtain ⟨old, hold⟩ : ∃ old, old = B (marks n x ++ l.drop x)[x] := ⟨_, rfl⟩
      rw [← hold] at f1
      have hset := hO.set x hxl (mkAt n x)
      have hnew : (marks n x ++ l.drop x).set x (mkAt n x) = marks n (x + 1) ++ l.drop (x + 1) := by
        rw [marks_succ, List.set_append_right _ _ (by rw [marks_length]; exact Nat.le_refl _), marks_length, Nat.sub_self, List.drop_eq_getElem_cons (by rw [← HL.out]; exact hlt), List.set_cons_zero, List.append_assoc]
        rfl
      rw [hnew] at hset
      have x1 : (x : Int) < (L : Int) := by omega
      unfold B at hset
      have HSE := Lib.hid hset
      have HKR := Lib.hid hkr
      have CMK := Lib.hid (lMark_any (w := wr) n x (by omega))
      clear hset hnew hold hO hkr hll hxl
      go_wp2_with (go_at_call 54; refine CMK.out.mono ?_; rintro e w' ⟨rfl, rfl⟩)
      go_roundw
      case rel => exact ⟨x + 1, by omega, by go_num, HSE.out, HKR.out.setCell (.inl (by simp [Value.ownBlock])) _⟩
      case measure => simp [intOf]; omega
    · have e : L = x := by omega
      have hfull : marks n x ++ l.drop x = marks n L := by rw [← e, List.drop_of_length_le (by rw [← HL.out]; exact Nat.le_refl _), List.append_nil]
      rw [hfull] at hO
      subst e
      have HO := Lib.hid hO
      have HKR := Lib.hid hkr
      clear hO hkr hfull x0 hlt
      obtain ⟨w2, rfl⟩ : ∃ w2 : World, w2 = wr := ⟨_, rfl⟩
      obtain ⟨wa, hwa⟩ : ∃ wa, wa = w2.alloc (.cells #[.int .u8 (mkAt n L).toNat] 5 (0, 0)) := ⟨_, rfl⟩
      have hka : Keeps [] w2 wa := by rw [hwa]; exact (Keeps.refl _ _).alloc _
      have hOa : OwnB wa (.slice av L cv) (marks n L) := ownsRow_keep HO.out (fun j hj => hka.block j (World.ownsRow.lt HO.out j hj).2 (by simp))
      obtain ⟨g6, c6, w3, hr3, hO3, hk3, hg3, hu3⟩ := push_marks hOa (k := 1) (by omega) (by omega) (B' := w2.heap.size) (c := 1) (by rw [hwa]; exact heap_new_at rfl) 29
      have hv3 := hu3 _ _ hOa
      have hkk3 : Keeps (Value.slice av L cv).ownBlock.toList w2 w3 := (hka.mono (G := (Value.slice av L cv).ownBlock.toList) (by simp)).trans hk3 (fun j hj => .inl hj)
      have hgg3 : (Value.slice av L cv).ownBlock = some g6 ∨ w2.heap.size ≤ g6 := hg3.imp id (fun h => by have := hka.size; omega)
      have HAP3 := Lib.hid (run_builtin_append hr3)
      have HB3 := Lib.hid (run_buildSlice_u8 w2 (mkAt n L).toNat)
      have CM3 := Lib.hid (lMark_any (w := w2) n L (by omega))
      have HWA := Lib.hid hwa
      obtain ⟨L1, hL1⟩ : ∃ L1, L1 = L + 1 := ⟨_, rfl⟩
      have eL1 : (L : Int) + 1 = (L1 : Int) := by omega
      have eL2 : IntKind.i64.wrap (L1 : Int) = (L1 : Int) := IntWalk.i64_in _ (by omega)
      obtain ⟨wb, hwb⟩ : ∃ wb, wb = w3.alloc (.cells #[.int .u8 (mkAt n L).toNat, .int .u8 (mkAt n L1).toNat] 5 (0, 0)) := ⟨_, rfl⟩
      have hkb : Keeps [] w3 wb := by rw [hwb]; exact (Keeps.refl _ _).alloc _
      have keepb : ∀ u j, OwnB w3 u (marks n j) → OwnB wb u (marks n j) := fun u j h => ownsRow_keep h (fun i hi => hkb.block i (World.ownsRow.lt h i hi).2 (by simp))
      obtain ⟨g7, c7, w4, hr4, hO4, hk4, hg4, hu4⟩ := push_marks (keepb _ _ hv3) (k := 2) (by omega) (by omega) (B' := w3.heap.size) (c := 2) (by rw [hwb, hL1]; exact heap_new_at rfl) 29
      have hv4 := hu4 _ _ (keepb _ _ hv3)
      have hvg4 := hu4 _ _ (keepb _ _ hO3)
      have hkk4 : Keeps (Value.slice av L cv).ownBlock.toList w2 w4 := (hkk3.trans (G := []) hkb (by simp)).trans hk4 (fun j hj => .inl hj)
      have hgg4 : (Value.slice av L cv).ownBlock = some g7 ∨ w2.heap.size ≤ g7 := hg4.imp id (fun h => by have := hkb.size; have := hkk3.size; omega)
      have HAP4 := Lib.hid (run_builtin_append hr4)
      have HB4 := Lib.hid (run_buildSlice_u8_2 w3 (mkAt n L).toNat (mkAt n L1).toNat)
      have CM4 := Lib.hid (lMark_any (w := w3) n L (by omega))
      have CM5 := Lib.hid (lMark_any (w := w3) n L1 (by omega))
      have HL1 := Lib.hid hL1
      have HWB := Lib.hid hwb
      have HGG3 := Lib.hid hgg3
      have H4 := Lib.hid (And.intro hO4 (And.intro hv4 (And.intro hvg4 (And.intro hkk4 hgg4))))
      clear hwa hka hOa hr3 hO3 hk3 hg3 hu3 hv3 hkk3 hgg3 hwb hkb keepb hr4 hO4 hk4 hg4 hu4 hv4 hvg4 hkk4 hgg4 hL1
      go_upto_region 7 with (first | (go_at_call 54; refine CM3.out.mono ?_; rintro e w' ⟨rfl, rfl⟩) | (refine wl_buildSlice rfl 29 1 #[(0, .tmp 37)] #[(0, .int .u8 (mkAt n L).toNat)] rfl (by simp [Act.eval]) ?_; refine ⟨_, _, HB3.out, ?_⟩; try simp only [Act.put, List.setIfInBounds_toArray, List.set_cons_zero, List.set_cons_succ, List.getElem_toArray, List.getElem_cons_zero, List.getElem_cons_succ]) | (refine wl_builtin rfl .append #[.tmp 33, .tmp 38] #[29, 29] rfl ?_; simp only [List.map_toArray, List.map_cons, List.map_nil]; rw [← HWA.out]; refine ⟨_, _, HAP3.out, ?_⟩; try simp only [Act.put, List.setIfInBounds_toArray, List.set_cons_zero, List.set_cons_succ, List.getElem_toArray, List.getElem_cons_zero, List.getElem_cons_succ]))
      go_wp2_with (first | (go_at_call 54; with_reducible refine CM4.out.mono ?_; rintro e w' ⟨rfl, rfl⟩) | (go_at_call 54; with_reducible refine CM5.out.mono ?_; rintro e w' ⟨rfl, rfl⟩) | (refine wl_buildSlice rfl 29 2 #[(0, .tmp 44), (1, .tmp 49)] #[(0, .int .u8 (mkAt n L).toNat), (1, .int .u8 (mkAt n L1).toNat)] rfl (by simp [Act.eval]) ?_; refine ⟨_, _, HB4.out, ?_⟩; try simp only [Act.put, List.setIfInBounds_toArray, List.set_cons_zero, List.set_cons_succ, List.getElem_toArray, List.getElem_cons_zero, List.getElem_cons_succ]) | (refine wl_builtin rfl .append #[.tmp 40, .tmp 50] #[29, 29] rfl ?_; simp only [List.map_toArray, List.map_cons, List.map_nil]; rw [← HWB.out]; refine ⟨_, _, HAP4.out, ?_⟩; try simp only [Act.put, List.setIfInBounds_toArray, List.set_cons_zero, List.set_cons_succ, List.getElem_toArray, List.getElem_cons_zero, List.getElem_cons_succ]))
      clear HAP3 HB3 CM3 HWA HAP4 HB4 CM4 CM5 HWB
      go_loopw [7, 8] (fun hv iv wr => ∃ (i gh ch : Nat), i ≤ 300 ∧ iv = .int .i64 i ∧ hv = .slice (some ⟨gh, 0, none⟩) (L + 2 + i) ch ∧ OwnB wr hv (marks n (L + 2 + i)) ∧ OwnB wr (.slice av L cv) (marks n L) ∧ OwnB wr (.slice (some ⟨g6, 0, none⟩) (L + 1) c6) (marks n (L + 1)) ∧ Keeps (Value.slice av L cv).ownBlock.toList w2 wr ∧ ((Value.slice av L cv).ownBlock = some gh ∨ w2.heap.size ≤ gh)) (fun _ iv _ => 300 - (intOf iv).toNat)
      case atStart => exact ⟨0, g7, c7, by omega, rfl, rfl, H4.out.1, H4.out.2.1, H4.out.2.2.1, H4.out.2.2.2.1, H4.out.2.2.2.2⟩
      case round =>
        obtain ⟨i, gh, ch, hi, rfl, rfl, hOh, hOv, hOg, hki, hgi⟩ := hrel
        obtain ⟨M, hM⟩ : ∃ M, M = L + 2 + i := ⟨_, rfl⟩
        rw [← hM] at hOh ⊢
        have i0 : (0 : Int) ≤ (i : Int) := by omega
        by_cases hi3 : i < 300
        · have i1 : (i : Int) < 300 := by omega
          obtain ⟨wc, hwc⟩ : ∃ wc, wc = wr.alloc (.cells #[.int .u8 (mkAt n M).toNat] 5 (0, 0)) := ⟨_, rfl⟩
          have hkc : Keeps [] wr wc := by rw [hwc]; exact (Keeps.refl _ _).alloc _
          have keepc : ∀ u j, OwnB wr u (marks n j) → OwnB wc u (marks n j) := fun u j h => ownsRow_keep h (fun i hi => hkc.block i (World.ownsRow.lt h i hi).2 (by simp))
          obtain ⟨g8, c8, w5, hr5, hO5, hk5, hg5, hu5⟩ := push_marks (keepc _ _ hOh) (k := 1) (by omega) (by omega) (B' := wr.heap.size) (c := 1) (by rw [hwc]; exact heap_new_at rfl) 29
          have hkk5 : Keeps (Value.slice av L cv).ownBlock.toList w2 w5 := (hki.trans (G := []) hkc (by simp)).trans hk5 (fun j hj => by
            have e : j = gh := by simpa [Value.ownBlock] using hj
            subst e
            exact hgi.imp (fun h => by rw [h]; simp) id)
          have hgg5 : (Value.slice av L cv).ownBlock = some g8 ∨ w2.heap.size ≤ g8 := by
            rcases hg5 with hg5 | hg5
            · have e : gh = g8 := by simpa [Value.ownBlock] using hg5
              rw [← e]; exact hgi
            · have := hkc.size
              have := hki.size
              exact .inr (by omega)
          have H5 := Lib.hid (And.intro hO5 (And.intro (hu5 _ _ (keepc _ _ hOv)) (And.intro (hu5 _ _ (keepc _ _ hOg)) (And.intro hkk5 hgg5))))
          have HAP5 := Lib.hid (run_builtin_append hr5)
          have HB5 := Lib.hid (run_buildSlice_u8 wr (mkAt n M).toNat)
          have CM6 := Lib.hid (lMark_any (w := wr) n M (by omega))
          have HWC := Lib.hid hwc
          have HM := Lib.hid hM
          have m0 : (0 : Int) ≤ (M : Int) := by omega
          clear hwc hkc keepc hr5 hO5 hk5 hg5 hu5 hkk5 hgg5 hM hOh hOv hOg hki hgi
          go_wp2_with (first | (go_at_call 54; with_reducible refine CM6.out.mono ?_; rintro e w' ⟨rfl, rfl⟩) | (refine wl_buildSlice rfl 29 1 #[(0, .tmp 60)] #[(0, .int .u8 (mkAt n M).toNat)] rfl (by simp [Act.eval]) ?_; refine ⟨_, _, HB5.out, ?_⟩; try simp only [Act.put, List.setIfInBounds_toArray, List.set_cons_zero, List.set_cons_succ, List.getElem_toArray, List.getElem_cons_zero, List.getElem_cons_succ]) | (refine wl_builtin rfl .append #[.tmp 56, .tmp 61] #[29, 29] rfl ?_; simp only [List.map_toArray, List.map_cons, List.map_nil]; rw [← HWC.out]; refine ⟨_, _, HAP5.out, ?_⟩; try simp only [Act.put, List.setIfInBounds_toArray, List.set_cons_zero, List.set_cons_succ, List.getElem_toArray, List.getElem_cons_zero, List.getElem_cons_succ]))
          go_roundw
          case rel =>
            have e : L + 2 + (i + 1) = M + 1 := by have := HM.out; omega
            exact ⟨i + 1, g8, c8, by omega, by go_num, by rw [e], by rw [e]; exact H5.out.1, H5.out.2.1, H5.out.2.2.1, H5.out.2.2.2.1, H5.out.2.2.2.2⟩
          case measure => simp [intOf]; omega
        · have hi4 : ¬ (i : Int) < 300 := by omega
          have HOH := Lib.hid hOh
          have HOV := Lib.hid hOv
          have HOG := Lib.hid hOg
          have HKI := Lib.hid hki
          have HGI := Lib.hid hgi
          have HML := Lib.hid (show M ≤ L + 302 from by omega)
          have m0 : (0 : Int) ≤ (M : Int) := by omega
          clear hM hOh hOv hOg hki hgi H4
          obtain ⟨w6, rfl⟩ : ∃ w6 : World, w6 = wr := ⟨_, rfl⟩
          have hn2 : (Value.slice av L cv).ownBlock ≠ some b := by have h := HN2.out; rw [← HL.out] at h; exact h
          have hn3 : ∀ j, k.gv.ownBlock = some j → (Value.slice av L cv).ownBlock ≠ some j := by have h := HN3.out; rw [← HL.out] at h; exact h
          have hkw6 : Keeps (Value.slice av L cv).ownBlock.toList w1 w6 := HKR.out.trans (G := (Value.slice av L cv).ownBlock.toList) HKI.out (fun j hj => .inl hj)
          have hb6 : BkAt w6 b { k with next := wrap64 (k.next + 1) } := HB1.out.keep (hkw6.block b (lt_of_heap HB1.out) (by simpa using hn2))
          have hq6 := HG1.out.keep (w' := w6) (fun j hj => hkw6.block j (HG1.out.lt j hj) (by simpa using hn3 j hj))
          obtain ⟨vg, hvg⟩ : ∃ vg : Value, vg = .slice (some ⟨g6, 0, none⟩) (L + 1) c6 := ⟨_, rfl⟩
          obtain ⟨vh, hvh⟩ : ∃ vh : Value, vh = .slice (some ⟨gh, 0, none⟩) M ch := ⟨_, rfl⟩
          obtain ⟨GC, hGC⟩ : ∃ GC : List Value, GC = [.slice av L cv, vg, vh, .int .i64 n] := ⟨_, rfl⟩
          obtain ⟨wd, hwd⟩ : ∃ wd, wd = w6.alloc (.cells GC.toArray 104 (0, 0)) := ⟨_, rfl⟩
          have hkd : Keeps [] w6 wd := by rw [hwd]; exact (Keeps.refl _ _).alloc _
          have hqd := hq6.keep (w' := wd) (fun j hj => hkd.block j (hq6.lt j hj) (by simp))
          have hbd' := hb6.keep (w' := wd) (hkd.block b (lt_of_heap hb6) (by simp))
          have hgcl : GC.length = 4 := by rw [hGC]; rfl
          have hgc1 : ∀ u ∈ GC, u.oneCell' = true := by
            rw [hGC, hvg, hvh]
            intro u hu
            simp only [List.mem_cons, List.not_mem_nil, or_false] at hu
            rcases hu with rfl | rfl | rfl | rfl <;> rfl
          obtain ⟨ig, hig, hzg, hsg, hbg⟩ := info_parts info_group
          obtain ⟨gq, oq, cq, w7, hr7, hq7, hk7, hg7⟩ := hqd.append (ty := 73) (ts := 73) (c := 1) Try.underlying73 hig hzg hsg hbg rfl (by omega) hgcl (B := w6.heap.size) (by rw [hwd]; exact heap_new_at rfl) hgc1 (by omega) (by omega)
          have hb7 := hbd'.keep (w' := w7) (hk7.block b (lt_of_heap hbd') (by simpa using HN1.out))
          have HBD3 : Hid ((Instr.build 102 #[(0, .slice av L cv), (1, vg), (2, vh)]).run Try.prog w6 = .ok (.agg #[.slice av L cv, vg, vh]) w6) := Lib.hid (by rw [hvg, hvh]; exact run_build (P := Try.prog) w6 _ _ _ (built_3bs _ _ _ _ _ _ _ _ _))
          have HBDG : Hid ((Instr.build 104 #[(0, .agg #[.slice av L cv, vg, vh]), (1, .int .i64 n)]).run Try.prog w6 = .ok (.agg GC.toArray) w6) := Lib.hid (by rw [hGC]; exact run_build (P := Try.prog) w6 _ _ _ (built_group _ _ _ _))
          have HSL := Lib.hid (run_buildSlice_one (P := Try.prog) w6 Try.underlying73 info_group (cs := GC.toArray) (by simpa using hgcl) (by omega) (by omega))
          have HAP7 := Lib.hid (run_builtin_append hr7)
          have q2 := hb6.at.2.2.1
          have q7 := hb7.at.2.2.1
          have q8 := hb7.free 2
          simp only at q2 q7
          have HWD := Lib.hid hwd
          obtain ⟨gvn, hgvn⟩ : ∃ gvn : Value, gvn = .slice (some ⟨gq, oq, none⟩) (gs.length + 1) cq := ⟨_, rfl⟩
          obtain ⟨w8, hw8⟩ : ∃ w8, w8 = w7.setCell ⟨b, 2, none⟩ gvn := ⟨_, rfl⟩
          have hgqb : gq ≠ b := by
            rcases hg7 with hg7 | hg7
            · exact fun e => HN1.out (by rw [hg7, e])
            · have := lt_of_heap hbd'; omega
          have hb8 : BkAt w8 b { k with gv := gvn, next := wrap64 (k.next + 1) } := by rw [hw8]; exact hb7.set 2 _ rfl
          have hk8 : Keeps [b] w7 w8 := by rw [hw8]; exact (Keeps.refl _ _).setCell (.inl (by simp)) _
          have hq8 : QOwn w8 104 4 (.slice (some ⟨gq, oq, none⟩) (gs.length + 1) cq) (gs.length + 1) (gs.flatMap Grp.cells ++ GC) := hq7.keep (fun j hj => hk8.block j (hq7.lt j hj) (by
            have e : gq = j := by simpa [Value.ownBlock] using hj
            simp; omega))
          have hkw8 : Keeps (b :: (k.gv.ownBlock.toList ++ (Value.slice av L cv).ownBlock.toList)) w w8 :=
            ((((HK1.out.mono (G := b :: (k.gv.ownBlock.toList ++ (Value.slice av L cv).ownBlock.toList)) (by simp)).trans hkw6 (fun j hj => .inl (by simp at hj ⊢; exact .inr (.inr hj)))).trans (G := []) hkd (by simp)).trans hk7 (fun j hj => .inl (by simp at hj ⊢; exact .inr (.inl hj)))).trans hk8 (fun j hj => .inl (by simp at hj ⊢; exact .inl hj))
          have hok8 : ∀ u j, OwnB w6 u (marks n j) → u.ownBlock ≠ some b → (∀ i, u.ownBlock = some i → k.gv.ownBlock ≠ some i) → OwnB w8 u (marks n j) := fun u j hu h1 h2 => by
            refine ownsRow_keep hu (fun i hi => ?_)
            have hlt := (World.ownsRow.lt hu i hi).2
            have hld : i < wd.heap.size := Nat.lt_of_lt_of_le hlt hkd.size
            rw [hk8.block i (Nat.lt_of_lt_of_le hld hk7.size) (by simp; rintro rfl; exact h1 hi), hk7.block i hld (by simpa using h2 i hi), hkd.block i hlt (by simp)]
          have HOK8 := Lib.hid hok8
          have HKD := Lib.hid hkd.size
          have HSZ := Lib.hid (show w2.heap.size ≤ w6.heap.size from HKI.out.size)
          have HB8 := Lib.hid hb8
          have HQ8 := Lib.hid hq8
          have HKW8 := Lib.hid hkw8
          have HGQ := Lib.hid hg7
          have HGQB := Lib.hid hgqb
          have HGC := Lib.hid hGC
          have HVG := Lib.hid hvg
          have HVH := Lib.hid hvh
          have HW8 := Lib.hid hw8
          have HGVN := Lib.hid hgvn
          clear hkw6 hb6 hq6 hvg hvh hGC hwd hkd hqd hbd' hgcl hgc1 hig hzg hsg hbg hr7 hq7 hk7 hg7 hb7 hgvn hw8 hb8 hk8 hq8 hkw8 hok8 hgqb hn2 hn3
          go_upto_region 12 with fail
          rw [← HVG.out, ← HVH.out]
          go_upto_region 13 with (first | (refine wl_build rfl 102 #[(0, .tmp 68), (1, .tmp 69), (2, .tmp 70)] #[(0, .slice av L cv), (1, vg), (2, vh)] rfl (by simp [Act.eval]) ?_; refine ⟨_, _, HBD3.out, ?_⟩; try simp only [Act.put, List.setIfInBounds_toArray, List.set_cons_zero, List.set_cons_succ, List.getElem_toArray, List.getElem_cons_zero, List.getElem_cons_succ]) | (refine wl_build rfl 104 #[(0, .tmp 71), (1, .tmp 72)] #[(0, .agg #[.slice av L cv, vg, vh]), (1, .int .i64 n)] rfl (by simp [Act.eval]) ?_; refine ⟨_, _, HBDG.out, ?_⟩; try simp only [Act.put, List.setIfInBounds_toArray, List.set_cons_zero, List.set_cons_succ, List.getElem_toArray, List.getElem_cons_zero, List.getElem_cons_succ]) | (refine wl_buildSlice rfl 73 1 #[(0, .tmp 73)] #[(0, .agg GC.toArray)] rfl (by simp [Act.eval]) ?_; refine ⟨_, _, HSL.out, ?_⟩; try simp only [Act.put, List.setIfInBounds_toArray, List.set_cons_zero, List.set_cons_succ, List.getElem_toArray, List.getElem_cons_zero, List.getElem_cons_succ]) | (refine wl_builtin rfl .append #[.tmp 67, .tmp 74] #[73, 73] rfl ?_; simp only [List.map_toArray, List.map_cons, List.map_nil]; rw [← HWD.out]; refine ⟨_, _, HAP7.out, ?_⟩; try simp only [Act.put, List.setIfInBounds_toArray, List.set_cons_zero, List.set_cons_succ, List.getElem_toArray, List.getElem_cons_zero, List.getElem_cons_succ]))
          have hw8 := HW8.out
          rw [HGVN.out] at hw8
          rw [← hw8]
          have e6 := HVG.out
          have e7 := HVH.out
          subst e6 e7
          obtain ⟨_, _, _, z3, _⟩ := HB8.out.at
          have z4 := HB8.out.free 3
          simp only at z3
          clear hw8 q2 q7 q8
          go_wp2_with fail
          go_loopw [9] (fun t9 wr => ∃ (j N : Nat) (aq : Option Addr) (cq : Nat) (sz : Int), j ≤ gs.length ∧ N = gs.length + 1 - j ∧ BkAt wr b { k with gv := .slice aq N cq, size := sz, next := wrap64 (k.next + 1) } ∧ QOwn wr 104 4 (.slice aq N cq) N (((gs ++ [(⟨n, .slice av L cv, .slice (some ⟨g6, 0, none⟩) (L + 1) c6, .slice (some ⟨gh, 0, none⟩) M ch⟩ : Grp)]).drop j).flatMap Grp.cells) ∧ (Value.slice aq N cq).ownBlock = some gq ∧ Keeps [b] w8 wr) (fun t9 wr => lenAt wr b)
          case atStart =>
            refine ⟨0, gs.length + 1, some ⟨gq, oq, none⟩, cq, wrap64 (wrap64 (wrap64 (k.size + ↑L) + ↑L1) + ↑M), Nat.zero_le _, by omega, by have h := HB8.out; rw [HGVN.out] at h; exact h.set 3 _ rfl, ?_, rfl, (Keeps.refl _ _).setCell (.inl (by simp)) _⟩
            have h := HQ8.out
            rw [HGC.out] at h
            rw [List.drop_zero, List.flatMap_append]
            refine QOwn.keep (w := w8) (by simpa [Grp.cells] using h) (fun j hj => ?_)
            have e : gq = j := by simpa [Value.ownBlock] using hj
            exact Below.heap_setCell _ _ _ _ (by have := HGQB.out; simp; omega)
          case round =>
            obtain ⟨j, N, aq, cq2, sz, hj, hN, hB, hQ, hqb, hkb⟩ := hrel
            obtain ⟨y0, y1, y2, y3, y4, y5, y6, y7, y8, y9⟩ := hB.at
            have u2 := hB.free 2
            have u3 := hB.free 3
            have N0 : (0 : Int) ≤ (N : Int) := by omega
            clear y0 y1 y4 y5 y6 y7 y8 y9 z3 z4
            simp only at y2 y3
            obtain ⟨G, hG⟩ : ∃ G : Grp, G = ⟨n, .slice av L cv, .slice (some ⟨g6, 0, none⟩) (L + 1) c6, .slice (some ⟨gh, 0, none⟩) M ch⟩ := ⟨_, rfl⟩
            rw [← hG] at hQ
            by_cases hC : 1 < N ∧ (64 < N ∨ 1000000 < sz)
            · have g1 : (1 : Int) < (N : Int) := by omega
              have hjl : j < (gs ++ [G]).length := by simp; omega
              obtain ⟨X, hX⟩ : ∃ X, X = (gs ++ [G])[j] := ⟨_, rfl⟩
              have hdrop : (gs ++ [G]).drop j = X :: (gs ++ [G]).drop (j + 1) := by rw [hX]; exact List.drop_eq_getElem_cons hjl
              have hXS : X.isS := by
                have hm : X ∈ gs ++ [G] := by rw [hX]; exact List.getElem_mem hjl
                rcases List.mem_append.1 hm with hm | hm
                · exact HGS.out X hm
                · rw [List.mem_singleton.1 hm, hG]
                  exact ⟨⟨_, _, _, rfl⟩, ⟨_, _, _, rfl⟩, ⟨_, _, _, rfl⟩⟩
              obtain ⟨⟨a0, n0, k0, e0⟩, ⟨a1, n1, k1, e1⟩, ⟨a2, n2, k2, e2⟩⟩ := hXS
              obtain ⟨EC, hEC⟩ : ∃ EC : List Value, EC = [X.v0, X.v1, X.v2] := ⟨_, rfl⟩
              have hec3 : EC.length = 3 := by rw [hEC]; rfl
              have hec1 : ∀ u ∈ EC, u.oneCell' = true := by
                rw [hEC, e0, e1, e2]
                intro u hu
                simp only [List.mem_cons, List.not_mem_nil, or_false] at hu
                rcases hu with rfl | rfl | rfl <;> rfl
              rw [hdrop, List.flatMap_cons] at hQ
              obtain ⟨g9, o9, cap9, hv9, hg9, hr9⟩ := hQ.at (by omega)
              injection hv9 with e3 _ e4
              subst e3 e4
              have hr9' : wr.rangeAt g9 o9 EC := by
                have h := hr9
                rw [show X.cells ++ List.flatMap Grp.cells (List.drop (j + 1) (gs ++ [G])) = [] ++ EC ++ (.int .i64 X.mark :: List.flatMap Grp.cells (List.drop (j + 1) (gs ++ [G]))) from by rw [hEC]; rfl] at h
                have h2 := range_sub h
                simpa using h2
              have hbl := lt_of_heap hB
              obtain ⟨we, hwe⟩ : ∃ we, we = wr.alloc (.cells EC.toArray 102) := ⟨_, rfl⟩
              have hkwe : Keeps [] wr we := by rw [hwe]; exact (Keeps.refl _ _).alloc _
              have heh : we.heap[wr.heap.size]? = some (.cells EC.toArray 102 (0, 0)) := by rw [hwe]; exact heap_new_at rfl
              rw [hEC, e0, e1, e2] at heh
              have E0 : we.cell? ⟨wr.heap.size, 0, none⟩ = some (.slice a0 n0 k0) := by rw [cell_of_row we wr.heap.size 0 _ _ _ heh]; rfl
              have E1 : we.cell? ⟨wr.heap.size, 1, none⟩ = some (.slice a1 n1 k1) := by rw [cell_of_row we wr.heap.size 1 _ _ _ heh]; rfl
              have E2 : we.cell? ⟨wr.heap.size, 2, none⟩ = some (.slice a2 n2 k2) := by rw [cell_of_row we wr.heap.size 2 _ _ _ heh]; rfl
              have hBe := hB.keep (w' := we) (hkwe.block b hbl (by simp))
              have hQe := hQ.keep (w' := we) (fun i hi => hkwe.block i (hQ.lt i hi) (by simp))
              have s3 := hBe.at.2.2.2.1
              have s2 := hBe.at.2.2.1
              have r3 := hBe.free 3
              simp only at s3 s2
              have hqg : g9 = gq := by simpa [Value.ownBlock] using hqb
              have HKE := Lib.hid (hkb.trans (G := []) hkwe (by simp))
              have HBE := Lib.hid hBe
              have HQE := Lib.hid hQe
              have HWE := Lib.hid hwe
              have HQG := Lib.hid hqg
              have HDR := Lib.hid hdrop
              have HLA : Hid (lenAt wr b = N) := Lib.hid (by unfold lenAt; rw [y2])
              have HN9 := Lib.hid hN
              have N1 : N ≤ 65 := by omega
              clear hN hX hdrop e0 e1 e2 hEC hr9 hB hQ hkb heh hBe hQe hqb hqg hjl hkwe hwe s2
              have hC2 : (64 : Int) < (N : Int) ∨ (¬ (64 : Int) < (N : Int) ∧ 1000000 < sz) := by omega
              clear hC
              rcases hC2 with g2 | ⟨g2, g3⟩
              all_goals
                go_upto_region 16 with (first | (refine wl_load rfl 102 (.tmp 120) rfl ?_; refine ⟨_, _, run_loadAt_mid _ _ _ _ _ _ hr9' Try.underlying102 rfl (by rw [size_3bs, hec3]), ?_⟩; try simp only [Act.put, List.setIfInBounds_toArray, List.set_cons_zero, List.set_cons_succ, List.getElem_toArray, List.getElem_cons_zero, List.getElem_cons_succ]) | (refine wl_store rfl 102 (.tmp 9) (.tmp 121) rfl ?_; refine ⟨_, store_3bs wr hec3 hec1, ?_⟩; try simp only [Act.put, List.setIfInBounds_toArray, List.set_cons_zero, List.set_cons_succ, List.getElem_toArray, List.getElem_cons_zero, List.getElem_cons_succ]))
                rw [← HWE.out]
                refine rl_start (fun wy => (wy.cell? ⟨b, 3, none⟩ = some (.int .i64 sz) ∧ wy.cell? ⟨wr.heap.size, 0, none⟩ = some (.slice a0 n0 k0) ∧ wy.cell? ⟨wr.heap.size, 1, none⟩ = some (.slice a1 n1 k1) ∧ wy.cell? ⟨wr.heap.size, 2, none⟩ = some (.slice a2 n2 k2)) ∧ wy.frozen? ⟨b, 3, none⟩ = false) 19 (by kernel_rfl) ?_ (fun hHeld => ?_)
                · exact ⟨⟨s3, E0, E1, E2⟩, r3⟩
                refine' rl_take (i := 0) (v := _) rfl (by kernel_rfl) (by kernel_rfl) (by kernel_rfl) (by kernel_rfl) (fun _ _ _ h => h) (Or.inl ⟨by rfl, ?_⟩) (by assumption) ?_
                rotate_left 1
                · (intro w0 hSw; (try dsimp only at hSw); go_split_ands; go_simp; (try with_reducible rfl))
                try simp only [Act.put, List.setIfInBounds_toArray, List.set_cons_zero, List.set_cons_succ, List.getElem_toArray, List.getElem_cons_zero, List.getElem_cons_succ]
                refine' rl_take (i := 1) (v := _) rfl (by kernel_rfl) (by kernel_rfl) (by kernel_rfl) (by kernel_rfl) (fun _ _ _ h => h) (Or.inl ⟨by rfl, ?_⟩) (by assumption) ?_
                rotate_left 1
                · (intro w0 hSw; (try dsimp only at hSw); go_split_ands; go_simp; (try with_reducible rfl))
                try simp only [Act.put, List.setIfInBounds_toArray, List.set_cons_zero, List.set_cons_succ, List.getElem_toArray, List.getElem_cons_zero, List.getElem_cons_succ]
                refine' rl_take (i := 2) (v := _) rfl (by kernel_rfl) (by kernel_rfl) (by kernel_rfl) (by kernel_rfl) (fun _ _ _ h => h) (Or.inl ⟨by rfl, ?_⟩) (by assumption) ?_
                rotate_left 1
                · (intro w0 hSw; (try dsimp only at hSw); go_split_ands; go_simp; (try with_reducible rfl))
                try simp only [Act.put, List.setIfInBounds_toArray, List.set_cons_zero, List.set_cons_succ, List.getElem_toArray, List.getElem_cons_zero, List.getElem_cons_succ]
                refine' rl_take (i := 3) (v := _) rfl (by kernel_rfl) (by kernel_rfl) (by kernel_rfl) (by kernel_rfl) (fun _ _ _ h => h) (Or.inl ⟨by rfl, ?_⟩) (by assumption) ?_
                rotate_left 1
                · (intro w0 hSw; (try dsimp only at hSw); go_split_ands; go_simp; (try with_reducible rfl))
                try simp only [Act.put, List.setIfInBounds_toArray, List.set_cons_zero, List.set_cons_succ, List.getElem_toArray, List.getElem_cons_zero, List.getElem_cons_succ]
                refine' rl_take (i := 4) (v := _) rfl (by kernel_rfl) (by kernel_rfl) (by kernel_rfl) (by kernel_rfl) (fun _ _ _ h => h) (Or.inl ⟨by rfl, ?_⟩) (by assumption) ?_
                rotate_left 1
                · (intro w0 hSw; (try dsimp only at hSw); go_split_ands; go_simp; (try with_reducible rfl))
                try simp only [Act.put, List.setIfInBounds_toArray, List.set_cons_zero, List.set_cons_succ, List.getElem_toArray, List.getElem_cons_zero, List.getElem_cons_succ]
                refine' rl_take (i := 5) (v := _) rfl (by kernel_rfl) (by kernel_rfl) (by kernel_rfl) (by kernel_rfl) (fun _ _ _ h => h) (Or.inl ⟨by rfl, ?_⟩) (by assumption) ?_
                rotate_left 1
                · (intro w0 hSw; (try dsimp only at hSw); go_split_ands; go_simp; (try with_reducible rfl))
                try simp only [Act.put, List.setIfInBounds_toArray, List.set_cons_zero, List.set_cons_succ, List.getElem_toArray, List.getElem_cons_zero, List.getElem_cons_succ]
                refine' rl_take (i := 6) (v := _) rfl (by kernel_rfl) (by kernel_rfl) (by kernel_rfl) (by kernel_rfl) (fun _ _ _ h => h) (Or.inl ⟨by rfl, ?_⟩) (by assumption) ?_
                rotate_left 1
                · (intro w0 hSw; (try dsimp only at hSw); go_split_ands; go_simp; (try with_reducible rfl))
                try simp only [Act.put, List.setIfInBounds_toArray, List.set_cons_zero, List.set_cons_succ, List.getElem_toArray, List.getElem_cons_zero, List.getElem_cons_succ]
                refine' rl_take (i := 7) (v := _) rfl (by kernel_rfl) (by kernel_rfl) (by kernel_rfl) (by kernel_rfl) (fun _ _ _ h => h) (Or.inl ⟨by rfl, ?_⟩) (by assumption) ?_
                rotate_left 1
                · (intro w0 hSw; (try dsimp only at hSw); go_split_ands; go_simp; (try with_reducible rfl))
                try simp only [Act.put, List.setIfInBounds_toArray, List.set_cons_zero, List.set_cons_succ, List.getElem_toArray, List.getElem_cons_zero, List.getElem_cons_succ]
                refine' rl_take (i := 8) (v := _) rfl (by kernel_rfl) (by kernel_rfl) (by kernel_rfl) (by kernel_rfl) (fun _ _ _ h => h) (Or.inl ⟨by rfl, ?_⟩) (by assumption) ?_
                rotate_left 1
                · (intro w0 hSw; (try dsimp only at hSw); go_split_ands; go_simp; (try with_reducible rfl))
                try simp only [Act.put, List.setIfInBounds_toArray, List.set_cons_zero, List.set_cons_succ, List.getElem_toArray, List.getElem_cons_zero, List.getElem_cons_succ]
                refine' rl_take (i := 9) (v := _) rfl (by kernel_rfl) (by kernel_rfl) (by kernel_rfl) (by kernel_rfl) (fun _ _ _ h => h) (Or.inl ⟨by rfl, ?_⟩) (by assumption) ?_
                rotate_left 1
                · (intro w0 hSw; (try dsimp only at hSw); go_split_ands; go_simp; (try with_reducible rfl))
                try simp only [Act.put, List.setIfInBounds_toArray, List.set_cons_zero, List.set_cons_succ, List.getElem_toArray, List.getElem_cons_zero, List.getElem_cons_succ]
                refine' rl_take (i := 10) (v := _) rfl (by kernel_rfl) (by kernel_rfl) (by kernel_rfl) (by kernel_rfl) (fun _ _ _ h => h) (Or.inl ⟨by rfl, ?_⟩) (by assumption) ?_
                rotate_left 1
                · (intro w0 hSw; (try dsimp only at hSw); go_split_ands; go_simp; (try with_reducible rfl))
                try simp only [Act.put, List.setIfInBounds_toArray, List.set_cons_zero, List.set_cons_succ, List.getElem_toArray, List.getElem_cons_zero, List.getElem_cons_succ]
                refine' rl_take (i := 11) (v := _) rfl (by kernel_rfl) (by kernel_rfl) (by kernel_rfl) (by kernel_rfl) (fun _ _ _ h => h) (Or.inl ⟨by rfl, ?_⟩) (by assumption) ?_
                rotate_left 1
                · (intro w0 hSw; (try dsimp only at hSw); go_split_ands; go_simp; (try with_reducible rfl))
                try simp only [Act.put, List.setIfInBounds_toArray, List.set_cons_zero, List.set_cons_succ, List.getElem_toArray, List.getElem_cons_zero, List.getElem_cons_succ]
                refine' rl_take (i := 12) (v := _) rfl (by kernel_rfl) (by kernel_rfl) (by kernel_rfl) (by kernel_rfl) (fun _ _ _ h => h) (Or.inl ⟨by rfl, ?_⟩) (by assumption) ?_
                rotate_left 1
                · (intro w0 hSw; (try dsimp only at hSw); go_split_ands; go_simp; (try with_reducible rfl))
                try simp only [Act.put, List.setIfInBounds_toArray, List.set_cons_zero, List.set_cons_succ, List.getElem_toArray, List.getElem_cons_zero, List.getElem_cons_succ]
                refine' rl_take (i := 13) (v := _) rfl (by kernel_rfl) (by kernel_rfl) (by kernel_rfl) (by kernel_rfl) (fun _ _ _ h => h) (Or.inl ⟨by rfl, ?_⟩) (by assumption) ?_
                rotate_left 1
                · (intro w0 hSw; (try dsimp only at hSw); go_split_ands; go_simp; (try with_reducible rfl))
                try simp only [Act.put, List.setIfInBounds_toArray, List.set_cons_zero, List.set_cons_succ, List.getElem_toArray, List.getElem_cons_zero, List.getElem_cons_succ]
                refine' rl_take (i := 14) (v := _) rfl (by kernel_rfl) (by kernel_rfl) (by kernel_rfl) (by kernel_rfl) (fun _ _ _ h => h) (Or.inl ⟨by rfl, ?_⟩) (by assumption) ?_
                rotate_left 1
                · (intro w0 hSw; (try dsimp only at hSw); go_split_ands; go_simp; (try with_reducible rfl))
                try simp only [Act.put, List.setIfInBounds_toArray, List.set_cons_zero, List.set_cons_succ, List.getElem_toArray, List.getElem_cons_zero, List.getElem_cons_succ]
                refine' rl_take (i := 15) (v := _) rfl (by kernel_rfl) (by kernel_rfl) (by kernel_rfl) (by kernel_rfl) (fun _ _ _ h => h) (Or.inl ⟨by rfl, ?_⟩) (by assumption) ?_
                rotate_left 1
                · (intro w0 hSw; (try dsimp only at hSw); go_split_ands; go_simp; (try with_reducible rfl))
                try simp only [Act.put, List.setIfInBounds_toArray, List.set_cons_zero, List.set_cons_succ, List.getElem_toArray, List.getElem_cons_zero, List.getElem_cons_succ]
                refine' rl_take (i := 16) (v := _) rfl (by kernel_rfl) (by kernel_rfl) (by kernel_rfl) (by kernel_rfl) (fun _ _ _ h => h) (Or.inl ⟨by rfl, ?_⟩) (by assumption) ?_
                rotate_left 1
                · (intro w0 hSw; (try dsimp only at hSw); go_split_ands; go_simp; (try with_reducible rfl))
                try simp only [Act.put, List.setIfInBounds_toArray, List.set_cons_zero, List.set_cons_succ, List.getElem_toArray, List.getElem_cons_zero, List.getElem_cons_succ]
                refine rl_act (i := 17) (by kernel_rfl) rfl (fun K hK => ?_)
                go_simp
                refine hK.out _ _ ?_ (fun hHeld => ?_)
                · exact ⟨⟨s3, E0, E1, E2⟩, r3⟩
                clear hK K
                try simp only [Act.put, List.setIfInBounds_toArray, List.set_cons_zero, List.set_cons_succ, List.getElem_toArray, List.getElem_cons_zero, List.getElem_cons_succ]
                refine' rl_take (i := 18) (v := _) rfl (by kernel_rfl) (by kernel_rfl) (by kernel_rfl) (by kernel_rfl) (fun _ _ _ h => h) (Or.inl ⟨by rfl, ?_⟩) (by assumption) ?_
                rotate_left 1
                · (intro w0 hSw; (try dsimp only at hSw); go_split_ands; go_simp; (try with_reducible rfl))
                try simp only [Act.put, List.setIfInBounds_toArray, List.set_cons_zero, List.set_cons_succ, List.getElem_toArray, List.getElem_cons_zero, List.getElem_cons_succ]
                refine rl_last (by kernel_rfl) (by kernel_rfl) rfl (fun K hK => ?_)
                go_simp
                refine hK.out _ _ ?_
                clear hK K
                try simp only [Act.put, List.setIfInBounds_toArray, List.set_cons_zero, List.set_cons_succ, List.getElem_toArray, List.getElem_cons_zero, List.getElem_cons_succ]
                clear hHeld E0 E1 E2 s3 r3
                generalize IntKind.i64.wrap (IntKind.i64.wrap (IntKind.i64.wrap (sz - (n0 : Int)) - (n1 : Int)) - (n2 : Int)) = sz2
                obtain ⟨wz, hwz⟩ : ∃ wz, wz = (we.setCell ⟨b, 3, none⟩ (.int .i64 sz2)).drew := ⟨_, rfl⟩
                rw [← hwz]
                have hBz : BkAt wz b { k with gv := .slice (some ⟨g9, o9, none⟩) N cq2, size := sz2, next := wrap64 (k.next + 1) } := by rw [hwz]; exact HBE.out.set 3 _ rfl
                have hkz : Keeps [b] we wz := by rw [hwz]; exact ((Keeps.refl _ _).setCell (.inl (by simp)) _).drew
                have hQz := HQE.out.keep (w' := wz) (fun i hi => hkz.block i (HQE.out.lt i hi) (by
                  have e : g9 = i := by simpa [Value.ownBlock] using hi
                  have := HQG.out; have := HGQB.out; simp; omega))
                have y2 := hBz.at.2.2.1
                have u2 := hBz.free 2
                simp only at y2
                have hRz := hQz.rest (size := 4) (by omega) rfl
                have hc9 : ¬ cq2 = 1 := by
                  obtain ⟨_, c9, e9, h9, _⟩ := hQz.form
                  injection e9 with _ _ e9
                  omega
                have e9 : rest1 g9 o9 4 cq2 = some ⟨g9, o9 + 4, none⟩ := by unfold rest1; rw [if_neg hc9]
                rw [e9] at hRz
                have HBZ := Lib.hid hBz
                have HKZ := Lib.hid hkz
                have HRZ := Lib.hid hRz
                clear hwz hBz hkz hQz hRz e9
                go_wp2_with fail
                go_roundw
                case rel =>
                  refine ⟨j + 1, N - 1, some ⟨g9, o9 + 4, none⟩, cq2 - 1, sz2, by have := HN9.out; omega, by have := HN9.out; omega, ?_, ?_, by have := HQG.out; simp [Value.ownBlock, this], ?_⟩
                  · exact HBZ.out.set 2 _ rfl
                  · rw [← hG]
                    refine HRZ.out.1.keep (fun i hi => ?_)
                    have e : g9 = i := by simpa [Value.ownBlock] using hi
                    have e2 := HQG.out
                    have e3 := HGQB.out
                    have e4 : i ≠ b := by rw [← e, e2]; exact e3
                    exact Below.heap_setCell _ _ _ _ (by simpa using e4)
                  · exact (HKE.out.trans (G := [b]) HKZ.out (by simp)).setCell (.inl (by simp)) _
                case measure =>
                  rw [HLA.out]
                  have : lenAt (wz.setCell ⟨b, 2, none⟩ (.slice (some ⟨g9, o9 + 4, none⟩) (N - 1) (cq2 - 1))) b = N - 1 := lenAt_bk (k := { k with gv := .slice (some ⟨g9, o9 + 4, none⟩) (N - 1) (cq2 - 1), size := sz2, next := wrap64 (k.next + 1) }) (HBZ.out.set 2 _ rfl) rfl
                  omega
            · have hN4 : N ≤ 64 := by omega
              have hC2 : ¬ (1 : Int) < (N : Int) ∨ ((1 : Int) < (N : Int) ∧ ¬ (64 : Int) < (N : Int) ∧ ¬ 1000000 < sz) := by omega
              clear hC
              have hbl := lt_of_heap hB
              have hdl : ((gs ++ [G]).drop j).length = N := by rw [List.length_drop, List.length_append]; simp; omega
              have HB9 := Lib.hid hB
              have HQ9 := Lib.hid hQ
              have HKB := Lib.hid hkb
              have HDL := Lib.hid hdl
              have HGG := Lib.hid hG
              have HQB := Lib.hid hqb
              have HJ := Lib.hid hj
              have HN9 := Lib.hid hN
              have HN0 : Hid (((gs ++ [G]).drop j).length ≤ 64) := Lib.hid (by rw [hdl]; exact hN4)
              clear hB hQ hkb hdl hG hqb hj hN hbl
              rcases hC2 with g1 | ⟨g1, g2, g3⟩
              all_goals
                go_wp2_with fail
                go_end0
                have hcl := keep_close (av := av) (L := L) (cv := cv) (by have h := HN2.out; rw [← HL.out] at h; exact h) (by have h := HN3.out; rw [← HL.out] at h; exact h) HK1.out.size HKR.out.size HKD.out HSZ.out (lt_of_heap HB1.out) HG1.out.lt HOV.out HOG.out HOH.out HGG3.out HGI.out HML.out hl HOK8.out HKB.out HGQ.out HQB.out HGG.out
                refine ⟨rfl, .slice aq N cq2, ⟨sz, HB9.out⟩, G, j, HJ.out, by have := HN9.out; omega, by rw [← HN9.out]; exact HQ9.out, hcl.1, hcl.2.1, hcl.2.2.1, hcl.2.2.2, HKW8.out.trans (G := [b]) HKB.out (by simp)⟩
end Go.Proofs.Ytbjffjplpnnhoaa
