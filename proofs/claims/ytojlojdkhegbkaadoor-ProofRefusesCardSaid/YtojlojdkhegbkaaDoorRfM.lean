/-
  Lemmas of a claim, bundle M: XBaA.
-/
import Derived.Lib.Strings
import Derived.Lib.Slices
import Derived.Lib.Small
import Derived.Lib.Walk
import Derived.Lib.BitFns
import Derived.Test.YtojlojdkhegbkaaDoorRfL
import Derived.Test.YtojlojdkhegbkaaDoorRfB
import Derived.Test.YtojlojdkhegbkaaDoorRfF
/-
  Package batch: Bit and Common.
-/
namespace Go.Proofs.YtojlojdkhegbkaaDoor
set_option linter.unusedVariables false
set_option linter.unusedSimpArgs false
open Go.RowKit

theorem size_key : (Tryd.prog.info? 23).map (·.size) = some 32 := by kernel_rfl
theorem size_key_of {l : List UInt8} (h : l.length = 32) : (Tryd.prog.info? 23).map (·.size) = some (l.map B).length := by rw [size_key, List.length_map, h]
set_option maxRecDepth 100000 in
theorem len8_any {w : World} (x : Int) (h0 : 0 ≤ x) (h1 : x ≤ 255) :
    Calls Tryd.prog 53 #[.int .u8 x] w fun e w' => e = .returned (.int .i64 (Lib.bitLen x.toNat)) ∧ w' = w := by
  rw [← Lib.len8_int x h0 h1]
  go_enter Tryd.func53, Tryd.ntmps53
  go_wp2
  go_ret
  refine ⟨?_, rfl⟩
  show Ending.returned (.int .i64 (wrap64 (Lib.len8 x))) = _
  unfold wrap64
  rfl
set_option maxRecDepth 100000 in
theorem lead8_any {w : World} (x : Nat) (hx : x < 256) {m : Nat} (hm : m = Lib.bitLen x) (h8 : m ≤ 8) :
    Calls Tryd.prog 35 #[.int .u8 x] w fun e w' => e = .returned (.int .i64 (8 - m : Nat)) ∧ w = w' := by
  have CL := len8_any (w := w) x (by omega) (by omega)
  rw [Int.toNat_natCast, ← hm] at CL
  have CL' := Lib.hid CL
  clear CL hm
  go_enter Tryd.func35, Tryd.ntmps35
  go_wp2_with fail
  refine CL'.out.mono ?_
  rintro e w' ⟨rfl, rfl⟩
  go_wp2_with fail
  go_ret
  refine ⟨?_, rfl⟩
  show Ending.returned (.int .i64 (8 - (m : Int))) = _
  rw [show (8 - (m : Int)) = ((8 - m : Nat) : Int) by omega]
theorem and7_i64 (i : Nat) (h : i < 4294967296) : bits .and .i64 (i : Int) 7 = ((i % 8 : Nat) : Int) := by
  have hx : i &&& 7 = i % 8 := Nat.and_two_pow_sub_one_eq_mod i 3
  show IntKind.i64.wrap ((BitVec.ofInt 64 (i : Int) &&& BitVec.ofInt 64 (7 : Int)).toNat : Int) = _
  have e1 : (BitVec.ofInt 64 (i : Int)).toNat = i := by rw [BitVec.ofInt_natCast, BitVec.toNat_ofNat]; exact Nat.mod_eq_of_lt (by omega)
  have e2 : (BitVec.ofInt 64 (7 : Int)).toNat = 7 := by decide
  rw [BitVec.toNat_and, e1, e2, hx]
  simp only [IntKind.wrap, IntKind.bits, IntKind.signed]
  simp
  omega
theorem and1_i64 (i : Nat) (h : i < 4294967296) : bits .and .i64 (i : Int) 1 = ((i % 2 : Nat) : Int) := by
  have hx : i &&& 1 = i % 2 := Nat.and_two_pow_sub_one_eq_mod i 1
  show IntKind.i64.wrap ((BitVec.ofInt 64 (i : Int) &&& BitVec.ofInt 64 (1 : Int)).toNat : Int) = _
  have e1 : (BitVec.ofInt 64 (i : Int)).toNat = i := by rw [BitVec.ofInt_natCast, BitVec.toNat_ofNat]; exact Nat.mod_eq_of_lt (by omega)
  have e2 : (BitVec.ofInt 64 (1 : Int)).toNat = 1 := by decide
  rw [BitVec.toNat_and, e1, e2, hx]
  simp only [IntKind.wrap, IntKind.bits, IntKind.signed]
  simp
  omega
set_option maxRecDepth 100000 in
set_option maxHeartbeats 800000 in
theorem baBit_any {w : World} {k : List UInt8} (hk : k.length = 32) (i : Nat) (hi : i < 256) :
    Calls Tryd.prog 34 #[.agg (k.map B).toArray, .int .i64 i] w fun e w' => e = .returned (.int .i64 (bitK k i)) ∧ Keeps [] w w' := by
  obtain ⟨q, hq⟩ : ∃ q, q = w.heap.size := ⟨_, rfl⟩
  obtain ⟨w1, hw1⟩ : ∃ x, x = w.alloc (.cells (k.map B).toArray 23 (0, 0)) := ⟨_, rfl⟩
  have k1 : Keeps [] w w1 := by rw [hw1]; exact (Keeps.refl _ _).alloc _
  have b1 : Blk w1 q 23 k := by rw [hw1]; exact heap_new_at hq
  obtain ⟨x, hx⟩ : ∃ x, x = k[i / 8]'(by omega) := ⟨_, rfl⟩
  have c1 := b1.cell (i / 8) (by omega)
  rw [← hx] at c1
  unfold B at c1
  have e1 : ((i : Int) / 8).toNat = i / 8 := by omega
  have b0 : (0 : Int) ≤ (i : Int) / 8 := by omega
  have b2 : (i : Int) / 8 < ((32 : Nat) : Int) := by omega
  have e7 := and7_i64 i (by omega)
  have HW1 := Lib.hid hw1
  have HQ := Lib.hid hq
  have HK1 := Lib.hid k1
  have HX := Lib.hid hx
  clear hw1 hq k1 b1 hx
  go_enter Tryd.func34, Tryd.ntmps34
  go_upto_region 1 with fail
  rw [← HW1.out, ← HQ.out]
  go_upto_region 3 with fail
  go_wp2_with fail
  go_ret
  refine ⟨?_, HK1.out⟩
  have hxl := x.toNat_lt
  have hd : x.toNat / 2 ^ (7 - i % 8) ≤ x.toNat := Nat.div_le_self _ _
  have e3 : ((x.toNat : Int) / 2 ^ (7 - i % 8)) = ((x.toNat / 2 ^ (7 - i % 8) : Nat) : Int) := by simp only [Int.natCast_ediv, Int.natCast_pow]; rfl
  have e4 : wrap64 ((x.toNat / 2 ^ (7 - i % 8) : Nat) : Int) = ((x.toNat / 2 ^ (7 - i % 8) : Nat) : Int) := by
    clear e3
    generalize x.toNat / 2 ^ (7 - i % 8) = N at hd ⊢
    unfold wrap64
    omega
  show Ending.returned (.int .i64 (bits BinOp.and IntKind.i64 (wrap64 ((x.toNat : Int) / 2 ^ (7 - i % 8))) 1)) = _
  rw [e3, e4, and1_i64 _ (by omega)]
  unfold bitK
  rw [List.getD_eq_getElem?_getD, List.getElem?_eq_getElem (by omega), HX.out]
  rfl
theorem u8_bits_xor {x y : Nat} (hx : x < 256) (hy : y < 256) : bits .xor .u8 (x : Int) (y : Int) = ((x ^^^ y : Nat) : Int) := by
  have hz : x ^^^ y < 2 ^ 8 := Nat.xor_lt_two_pow (by omega) (by omega)
  show IntKind.u8.wrap ((BitVec.ofInt 8 (x : Int) ^^^ BitVec.ofInt 8 (y : Int)).toNat : Int) = _
  have e1 : (BitVec.ofInt 8 (x : Int)).toNat = x := by rw [BitVec.ofInt_natCast, BitVec.toNat_ofNat]; exact Nat.mod_eq_of_lt (by omega)
  have e2 : (BitVec.ofInt 8 (y : Int)).toNat = y := by rw [BitVec.ofInt_natCast, BitVec.toNat_ofNat]; exact Nat.mod_eq_of_lt (by omega)
  rw [BitVec.toNat_xor, e1, e2]
  simp only [IntKind.wrap, IntKind.bits, IntKind.signed]
  simp
  omega
set_option maxRecDepth 100000 in
set_option maxHeartbeats 1600000 in
theorem baCommon_any {w : World} {a b : List UInt8} (ha : a.length = 32) (hb : b.length = 32) :
    Calls Tryd.prog 17 #[.agg (a.map B).toArray, .agg (b.map B).toArray] w fun e w' => e = .returned (.int .i64 (commonK a b)) ∧ Keeps [] w w' := by
  obtain ⟨C, hC⟩ : ∃ C, C = commonK a b := ⟨_, rfl⟩
  rw [← hC]
  obtain ⟨q, hq⟩ : ∃ q, q = w.heap.size := ⟨_, rfl⟩
  obtain ⟨q3, hq3⟩ : ∃ q, q = w.heap.size + 1 := ⟨_, rfl⟩
  obtain ⟨w1, hw1⟩ : ∃ x, x = (w.alloc (.cells (a.map B).toArray 23 (0, 0))).alloc (.cells (b.map B).toArray 23 (0, 0)) := ⟨_, rfl⟩
  have k1 : Keeps [] w w1 := by rw [hw1]; exact ((Keeps.refl _ _).alloc _).alloc _
  have b1 : Blk w1 q 23 a := by rw [hw1]; exact (heap_old_at (by simp; omega)).trans (heap_new_at hq)
  have b2 : Blk w1 q3 23 b := by rw [hw1]; exact heap_new_at (by simp; exact hq3)
  have HQE := Lib.hid (fun w => run_equalIn_bytes w 9998 Tryd.underlying23 ha hb)
  have HW1 := Lib.hid hw1
  have HQ := Lib.hid hq
  have HQ3 := Lib.hid hq3
  have HK1 := Lib.hid k1
  have HB1 := Lib.hid b1
  have HB2 := Lib.hid b2
  have HSA := Lib.hid (size_key_of ha)
  have HSB := Lib.hid (size_key_of hb)
  have HL := Lib.hid (And.intro ha hb)
  have HC := Lib.hid hC
  clear hw1 hq hq3 k1 b1 b2 ha hb hC
  by_cases he : a = b
  · have hqe := HQE.out
    rw [beq_iff_eq.2 he] at hqe
    have hc : C = 256 := by rw [HC.out]; exact (commonK_eq HL.out.1 HL.out.2).2 he
    have HCC := Lib.hid hc
    clear hc he
    go_enter Tryd.func17, Tryd.ntmps17
    go_upto_region 1 with fail
    rw [← HW1.out, ← HQ3.out, ← HQ.out]
    go_wp2_with (first | (refine wpList_load_mid rfl 23 (.tmp 2) rfl q 0 (by rfl) (a.map B) _ (rangeAt_all HB1.out) Tryd.underlying23 rfl HSA.out ?_; try simp only [Act.put, List.setIfInBounds_toArray, List.set_cons_zero, List.set_cons_succ, List.getElem_toArray, List.getElem_cons_zero, List.getElem_cons_succ]) | (refine wpList_load_mid rfl 23 (.tmp 3) rfl q3 0 (by rfl) (b.map B) _ (rangeAt_all HB2.out) Tryd.underlying23 rfl HSB.out ?_; try simp only [Act.put, List.setIfInBounds_toArray, List.set_cons_zero, List.set_cons_succ, List.getElem_toArray, List.getElem_cons_zero, List.getElem_cons_succ]))
    go_ret
    exact ⟨by rw [HCC.out]; rfl, HK1.out⟩
  · have hqe := HQE.out
    rw [beq_eq_false_iff_ne.2 he] at hqe
    have HE := Lib.hid he
    clear he
    go_enter Tryd.func17, Tryd.ntmps17
    go_upto_region 1 with fail
    rw [← HW1.out, ← HQ3.out, ← HQ.out]
    go_wp2_with (first | (refine wpList_load_mid rfl 23 (.tmp 2) rfl q 0 (by rfl) (a.map B) _ (rangeAt_all HB1.out) Tryd.underlying23 rfl HSA.out ?_; try simp only [Act.put, List.setIfInBounds_toArray, List.set_cons_zero, List.set_cons_succ, List.getElem_toArray, List.getElem_cons_zero, List.getElem_cons_succ]) | (refine wpList_load_mid rfl 23 (.tmp 3) rfl q3 0 (by rfl) (b.map B) _ (rangeAt_all HB2.out) Tryd.underlying23 rfl HSB.out ?_; try simp only [Act.put, List.setIfInBounds_toArray, List.set_cons_zero, List.set_cons_succ, List.getElem_toArray, List.getElem_cons_zero, List.getElem_cons_succ]))
    clear hqe
    go_loopw [10] (fun iv wr => ∃ j : Nat, j ≤ 32 ∧ iv = .int .i64 j ∧ (∀ i, i < j → a.getD i 0 = b.getD i 0) ∧ Keeps [] w1 wr) (fun iv _ => 32 - (intOf iv).toNat)
    case atStart => exact ⟨0, by omega, rfl, fun i hi => by omega, Keeps.refl _ _⟩
    case round =>
      obtain ⟨j, hj, rfl, hsame, hkr⟩ := hrel
      by_cases hlt : j < 32
      · obtain ⟨x, hx⟩ : ∃ x, x = a[j]'(by rw [HL.out.1]; exact hlt) := ⟨_, rfl⟩
        obtain ⟨y, hy⟩ : ∃ y, y = b[j]'(by rw [HL.out.2]; exact hlt) := ⟨_, rfl⟩
        have c1 := (HB1.out.keeps hkr (by simp)).cell j (by rw [HL.out.1]; exact hlt)
        have c2 := (HB2.out.keeps hkr (by simp)).cell j (by rw [HL.out.2]; exact hlt)
        rw [← hx] at c1
        rw [← hy] at c2
        unfold B at c1 c2
        have hxa : a.getD j 0 = x := by rw [List.getD_eq_getElem?_getD, List.getElem?_eq_getElem (by rw [HL.out.1]; exact hlt), hx]; rfl
        have hyb : b.getD j 0 = y := by rw [List.getD_eq_getElem?_getD, List.getElem?_eq_getElem (by rw [HL.out.2]; exact hlt), hy]; rfl
        have hxor := u8_bits_xor x.toNat_lt y.toNat_lt
        obtain ⟨z, hz⟩ : ∃ z : Nat, z = x.toNat ^^^ y.toNat := ⟨_, rfl⟩
        rw [← hz] at hxor
        have hz8 : z < 256 := by rw [hz]; exact Nat.xor_lt_two_pow (n := 8) x.toNat_lt y.toNat_lt
        have b0 : (0 : Int) ≤ (j : Int) := by omega
        have b3 : (j : Int) < ((32 : Nat) : Int) := by omega
        have HSAME := Lib.hid hsame
        have HKR := Lib.hid hkr
        have HXY := Lib.hid (And.intro hxa hyb)
        have HZ := Lib.hid hz
        clear hsame hkr hx hy hxa hyb hz
        by_cases hxy : x = y
        · have hz0 : z = 0 := by rw [HZ.out, hxy, Nat.xor_self]
          subst hz0
          have HE2 := Lib.hid hxy
          clear hxy
          go_upto_region 6 with fail
          refine wp_region_held_drew (S := (fun w' => w'.cell? ⟨q, j, none⟩ = some (.int .u8 x.toNat) ∧ w'.cell? ⟨q3, j, none⟩ = some (.int .u8 y.toNat))) (by kernel_rfl) ?_ (fun hHeld => ?_)
          · exact ⟨c1, c2⟩
          refine' wpAnyH_take (i := 0) (v := _) rfl (by kernel_rfl) (by kernel_rfl) (by kernel_rfl) (fun _ _ _ h => h) (Or.inl ⟨by rfl, ?_⟩) (by assumption) ?_
          rotate_left 1
          · (intro w0 hSw; (try dsimp only at hSw); go_split_ands; go_simp; (try with_reducible rfl))
          try simp only [Act.put, List.setIfInBounds_toArray, List.set_cons_zero, List.set_cons_succ, List.getElem_toArray, List.getElem_cons_zero, List.getElem_cons_succ]
          refine' wpAnyH_take (i := 1) (v := _) rfl (by kernel_rfl) (by kernel_rfl) (by kernel_rfl) (fun _ _ _ h => h) (Or.inl ⟨by rfl, ?_⟩) (by assumption) ?_
          rotate_left 1
          · (intro w0 hSw; (try dsimp only at hSw); go_split_ands; go_simp; (try with_reducible rfl))
          try simp only [Act.put, List.setIfInBounds_toArray, List.set_cons_zero, List.set_cons_succ, List.getElem_toArray, List.getElem_cons_zero, List.getElem_cons_succ]
          refine' wpAnyH_take (i := 2) (v := _) rfl (by kernel_rfl) (by kernel_rfl) (by kernel_rfl) (fun _ _ _ h => h) (Or.inl ⟨by rfl, ?_⟩) (by assumption) ?_
          rotate_left 1
          · (intro w0 hSw; (try dsimp only at hSw); go_split_ands; go_simp; (try with_reducible rfl))
          try simp only [Act.put, List.setIfInBounds_toArray, List.set_cons_zero, List.set_cons_succ, List.getElem_toArray, List.getElem_cons_zero, List.getElem_cons_succ]
          refine' wpAnyH_take (i := 3) (v := _) rfl (by kernel_rfl) (by kernel_rfl) (by kernel_rfl) (fun _ _ _ h => h) (Or.inl ⟨by rfl, ?_⟩) (by assumption) ?_
          rotate_left 1
          · (intro w0 hSw; (try dsimp only at hSw); go_split_ands; go_simp; (try with_reducible rfl))
          try simp only [Act.put, List.setIfInBounds_toArray, List.set_cons_zero, List.set_cons_succ, List.getElem_toArray, List.getElem_cons_zero, List.getElem_cons_succ]
          refine' wpAnyH_take (i := 4) (v := _) rfl (by kernel_rfl) (by kernel_rfl) (by kernel_rfl) (fun _ _ _ h => h) (Or.inl ⟨by rfl, ?_⟩) (by assumption) ?_
          rotate_left 1
          · (intro w0 hSw; (try dsimp only at hSw); go_split_ands; go_simp; (try with_reducible rfl))
          try simp only [Act.put, List.setIfInBounds_toArray, List.set_cons_zero, List.set_cons_succ, List.getElem_toArray, List.getElem_cons_zero, List.getElem_cons_succ]
          refine' wpAnyH_take (i := 5) (v := _) rfl (by kernel_rfl) (by kernel_rfl) (by kernel_rfl) (fun _ _ _ h => h) (Or.inl ⟨by rfl, ?_⟩) (by assumption) ?_
          rotate_left 1
          · (intro w0 hSw; (try dsimp only at hSw); go_split_ands; go_simp; (try with_reducible rfl))
          try simp only [Act.put, List.setIfInBounds_toArray, List.set_cons_zero, List.set_cons_succ, List.getElem_toArray, List.getElem_cons_zero, List.getElem_cons_succ]
          refine' wpAnyH_take (i := 6) (v := _) rfl (by kernel_rfl) (by kernel_rfl) (by kernel_rfl) (fun _ _ _ h => h) (Or.inl ⟨by rfl, ?_⟩) (by assumption) ?_
          rotate_left 1
          · (intro w0 hSw; (try dsimp only at hSw); go_split_ands; go_simp; (try with_reducible rfl))
          try simp only [Act.put, List.setIfInBounds_toArray, List.set_cons_zero, List.set_cons_succ, List.getElem_toArray, List.getElem_cons_zero, List.getElem_cons_succ]
          refine' wpAnyH_take (i := 7) (v := _) rfl (by kernel_rfl) (by kernel_rfl) (by kernel_rfl) (fun _ _ _ h => h) (Or.inl ⟨by rfl, ?_⟩) (by assumption) ?_
          rotate_left 1
          · (intro w0 hSw; (try dsimp only at hSw); go_split_ands; go_simp; (try with_reducible rfl))
          try simp only [Act.put, List.setIfInBounds_toArray, List.set_cons_zero, List.set_cons_succ, List.getElem_toArray, List.getElem_cons_zero, List.getElem_cons_succ]
          refine wpAnyH_done (by kernel_rfl) ?_ _
          clear hHeld
          go_wp2_with fail
          go_roundw
          case rel =>
            refine ⟨j + 1, by omega, by go_num, fun i hi => ?_, HKR.out.drew⟩
            by_cases e : i = j
            · subst e; rw [HXY.out.1, HXY.out.2, HE2.out]
            · exact HSAME.out i (by omega)
          case measure => simp [intOf]; omega
        · have hzne : ¬ z = 0 := fun e => hxy (by
            apply UInt8.toNat_inj.1
            apply Nat.eq_of_testBit_eq
            intro i
            have := congrArg (fun n => n.testBit i) (HZ.out.symm.trans e)
            simpa [Nat.testBit_xor] using this)
          obtain ⟨m, hm⟩ : ∃ m, m = Lib.bitLen z := ⟨_, rfl⟩
          have hm8 : m ≤ 8 := by rw [hm]; exact Lib.bitLen_le8 ⟨z, hz8⟩
          have hCv : C = 8 * j + (8 - m) := by
            rw [HC.out, common_byte hlt HSAME.out (by rw [HXY.out.1, HXY.out.2]; exact hxy), HXY.out.1, HXY.out.2, hm, HZ.out]
          have HLZ := Lib.hid (fun wx : World => lead8_any (w := wx) z hz8 hm hm8)
          have HCV := Lib.hid hCv
          clear hxy hm hCv
          go_upto_region 6 with fail
          refine wp_region_held_drew (S := (fun w' => w'.cell? ⟨q, j, none⟩ = some (.int .u8 x.toNat) ∧ w'.cell? ⟨q3, j, none⟩ = some (.int .u8 y.toNat))) (by kernel_rfl) ?_ (fun hHeld => ?_)
          · exact ⟨c1, c2⟩
          refine' wpAnyH_take (i := 0) (v := _) rfl (by kernel_rfl) (by kernel_rfl) (by kernel_rfl) (fun _ _ _ h => h) (Or.inl ⟨by rfl, ?_⟩) (by assumption) ?_
          rotate_left 1
          · (intro w0 hSw; (try dsimp only at hSw); go_split_ands; go_simp; (try with_reducible rfl))
          try simp only [Act.put, List.setIfInBounds_toArray, List.set_cons_zero, List.set_cons_succ, List.getElem_toArray, List.getElem_cons_zero, List.getElem_cons_succ]
          refine' wpAnyH_take (i := 1) (v := _) rfl (by kernel_rfl) (by kernel_rfl) (by kernel_rfl) (fun _ _ _ h => h) (Or.inl ⟨by rfl, ?_⟩) (by assumption) ?_
          rotate_left 1
          · (intro w0 hSw; (try dsimp only at hSw); go_split_ands; go_simp; (try with_reducible rfl))
          try simp only [Act.put, List.setIfInBounds_toArray, List.set_cons_zero, List.set_cons_succ, List.getElem_toArray, List.getElem_cons_zero, List.getElem_cons_succ]
          refine' wpAnyH_take (i := 2) (v := _) rfl (by kernel_rfl) (by kernel_rfl) (by kernel_rfl) (fun _ _ _ h => h) (Or.inl ⟨by rfl, ?_⟩) (by assumption) ?_
          rotate_left 1
          · (intro w0 hSw; (try dsimp only at hSw); go_split_ands; go_simp; (try with_reducible rfl))
          try simp only [Act.put, List.setIfInBounds_toArray, List.set_cons_zero, List.set_cons_succ, List.getElem_toArray, List.getElem_cons_zero, List.getElem_cons_succ]
          refine' wpAnyH_take (i := 3) (v := _) rfl (by kernel_rfl) (by kernel_rfl) (by kernel_rfl) (fun _ _ _ h => h) (Or.inl ⟨by rfl, ?_⟩) (by assumption) ?_
          rotate_left 1
          · (intro w0 hSw; (try dsimp only at hSw); go_split_ands; go_simp; (try with_reducible rfl))
          try simp only [Act.put, List.setIfInBounds_toArray, List.set_cons_zero, List.set_cons_succ, List.getElem_toArray, List.getElem_cons_zero, List.getElem_cons_succ]
          refine' wpAnyH_take (i := 4) (v := _) rfl (by kernel_rfl) (by kernel_rfl) (by kernel_rfl) (fun _ _ _ h => h) (Or.inl ⟨by rfl, ?_⟩) (by assumption) ?_
          rotate_left 1
          · (intro w0 hSw; (try dsimp only at hSw); go_split_ands; go_simp; (try with_reducible rfl))
          try simp only [Act.put, List.setIfInBounds_toArray, List.set_cons_zero, List.set_cons_succ, List.getElem_toArray, List.getElem_cons_zero, List.getElem_cons_succ]
          refine' wpAnyH_take (i := 5) (v := _) rfl (by kernel_rfl) (by kernel_rfl) (by kernel_rfl) (fun _ _ _ h => h) (Or.inl ⟨by rfl, ?_⟩) (by assumption) ?_
          rotate_left 1
          · (intro w0 hSw; (try dsimp only at hSw); go_split_ands; go_simp; (try with_reducible rfl))
          try simp only [Act.put, List.setIfInBounds_toArray, List.set_cons_zero, List.set_cons_succ, List.getElem_toArray, List.getElem_cons_zero, List.getElem_cons_succ]
          refine' wpAnyH_take (i := 6) (v := _) rfl (by kernel_rfl) (by kernel_rfl) (by kernel_rfl) (fun _ _ _ h => h) (Or.inl ⟨by rfl, ?_⟩) (by assumption) ?_
          rotate_left 1
          · (intro w0 hSw; (try dsimp only at hSw); go_split_ands; go_simp; (try with_reducible rfl))
          try simp only [Act.put, List.setIfInBounds_toArray, List.set_cons_zero, List.set_cons_succ, List.getElem_toArray, List.getElem_cons_zero, List.getElem_cons_succ]
          refine' wpAnyH_take (i := 7) (v := _) rfl (by kernel_rfl) (by kernel_rfl) (by kernel_rfl) (fun _ _ _ h => h) (Or.inl ⟨by rfl, ?_⟩) (by assumption) ?_
          rotate_left 1
          · (intro w0 hSw; (try dsimp only at hSw); go_split_ands; go_simp; (try with_reducible rfl))
          try simp only [Act.put, List.setIfInBounds_toArray, List.set_cons_zero, List.set_cons_succ, List.getElem_toArray, List.getElem_cons_zero, List.getElem_cons_succ]
          refine wpAnyH_done (by kernel_rfl) ?_ _
          clear hHeld
          go_wp2_with (first | (go_at_call 35; refine (HLZ.out _).mono ?_; rintro e w2 ⟨rfl, rfl⟩))
          go_ret
          refine ⟨?_, (HK1.out.trans (G := []) HKR.out (by simp)).drew⟩
          rw [HCV.out]
          show Ending.returned (.int .i64 (8 * (j : Int) + ((8 - m : Nat) : Int))) = _
          rw [show (8 * (j : Int) + ((8 - m : Nat) : Int)) = ((8 * j + (8 - m) : Nat) : Int) by omega]
      · have e : j = 32 := by omega
        subst e
        exact absurd (List.ext_getElem (by rw [HL.out.1, HL.out.2]) fun i h1 h2 => by
          have := hsame i (by rw [HL.out.1] at h1; exact h1)
          rw [List.getD_eq_getElem?_getD, List.getD_eq_getElem?_getD, List.getElem?_eq_getElem h1, List.getElem?_eq_getElem h2] at this
          exact this) HE.out
end Go.Proofs.YtojlojdkhegbkaaDoor
