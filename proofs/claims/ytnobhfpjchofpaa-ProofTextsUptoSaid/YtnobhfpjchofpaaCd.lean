/-
  Arrays of bytes compared; layer 12's law: sameProof, copyProof.
-/
import Derived.Test.YtnobhfpjchofpaaCc
import Derived.Laws.StructEq
import Derived.Deep.DeepCutAuto
namespace Go.Proofs.Ytnobhfpjchofpaa
set_option linter.unusedVariables false
set_option linter.unusedSimpArgs false
open Go.RowKit

theorem underlying_u8 : Try.prog.underlying 5 = some (.int .u8) := Try.underlying5
theorem run_equalIn_bytes (w : World) (d : Nat) {t : TypeId} {n : Nat} (hu : Try.prog.underlying t = some (.array n 5)) {l1 l2 : List UInt8} (h1 : l1.length = n) (h2 : l2.length = n) :
    (Op.equalIn (d + 2) t (.agg (l1.map B).toArray) (.agg (l2.map B).toArray)).run Try.prog w = .ok (l1 == l2) w := by
  rw [Op.equalIn]
  simp only [Sem.run_bind, run_underlying hu, Result.andThen_ok, sizeOf_u8, Nat.mul_one, Std.Legacy.Range.forIn_eq_forIn_range', Std.Legacy.Range.size]
  have hpart : ∀ (l : List UInt8) (k : Nat) (x : UInt8), l[k]? = some x → (part 5 (l.map B).toArray k).run Try.prog w = .ok (B x) w := fun l k x hx => by
    simp only [part, isAgg_u8, Sem.run_bind, Result.andThen_ok]
    simp [hx]
  have hsub : (n - 0 + 1 - 1) / 1 = n := by simp
  rw [hsub]
  have key : ∀ (k s : Nat), s + k = n → l1.take s = l2.take s →
      (forIn (List.range' s k) ((none, ()) : Option Bool × Unit) fun i _ => (do
        let a ← part 5 (l1.map B).toArray i
        let b ← part 5 (l2.map B).toArray i
        let e ← Op.equalIn (d + 1) 5 a b
        if (!e) = true then pure (ForInStep.done (some false, ())) else pure (ForInStep.yield (none, ())) : Sem (ForInStep (Option Bool × Unit)))).run Try.prog w = .ok (if l1 == l2 then none else some false, ()) w := by
    intro k
    induction k with
    | zero =>
      intro s hs ht
      rw [List.take_of_length_le (by omega), List.take_of_length_le (by omega)] at ht
      subst ht
      simp
    | succ k ih =>
      intro s hs ht
      have g1 : s < l1.length := by omega
      have g2 : s < l2.length := by omega
      have q1 := hpart l1 s l1[s] (List.getElem?_eq_getElem g1)
      have q2 := hpart l2 s l2[s] (List.getElem?_eq_getElem g2)
      rw [List.range'_succ, List.forIn_cons]
      simp only [Sem.run_bind, q1, q2, Result.andThen_ok, B, run_equalIn_int w d 5 .u8 .u8 _ _ underlying_u8]
      by_cases hx : l1[s] = l2[s]
      · have e : ((l1[s].toNat : Int) == (l2[s].toNat : Int)) = true := by rw [hx]; simp
        simp only [e, Bool.not_true, Bool.false_eq_true, if_false, Sem.run_pure, Result.andThen_ok]
        have h := ih (s + 1) (by omega) (by rw [List.take_succ_eq_append_getElem g1, List.take_succ_eq_append_getElem g2, ht, hx])
        simpa only [Sem.run_bind] using h
      · have e : ((l1[s].toNat : Int) == (l2[s].toNat : Int)) = false := by
          rw [beq_eq_false_iff_ne]
          intro h
          exact hx (UInt8.toNat_inj.1 (by omega))
        have hne : (l1 == l2) = false := by
          rw [beq_eq_false_iff_ne]
          intro h
          subst h
          exact hx rfl
        simp [e, hne]
  have h := key n 0 (by omega) (by simp)
  rw [h]
  cases l1 == l2 <;> simp
theorem eqGuard_32 (op : BinOp) (x y : Operand) (xs ys : Array Value) (w : World) : (eqGuard op 27 x y (.agg xs) (.agg ys)).run Try.prog w = .ok () w := run_eqGuard_agg w op 27 x y xs ys (by kernel_rfl)
theorem eqGuard_digest (op : BinOp) (x y : Operand) (xs ys : Array Value) (w : World) : (eqGuard op 45 x y (.agg xs) (.agg ys)).run Try.prog w = .ok () w := run_eqGuard_agg w op 45 x y xs ys (by kernel_rfl)
theorem size_digest : (Try.prog.info? 45).map (·.size) = some 32 := by kernel_rfl
theorem size_digest_of {l : List UInt8} (h : l.length = 32) : (Try.prog.info? 45).map (·.size) = some (l.map B).length := by rw [size_digest, List.length_map, h]
theorem pf_bits {w : World} {b : Nat} {p : Pf} {vv sv : Value} {t : TypeId} (h : w.heap[b]? = some (.cells (pfCells p vv sv).toArray t (0, 0))) (hl : p.bits.length = 32) : w.rangeAt b 2 (p.bits.map B) := by
  have e : pfCells p vv sv = [.bool p.found, vv] ++ p.bits.map B ++ [sv] := by simp [pfCells]
  rw [e] at h
  exact rangeAt_part h

set_option maxRecDepth 100000 in
theorem sameProof_true {w : World} {v1 v2 : Value} {p : Pf} (h1 : PfIn w v1 p) (h2 : PfIn w v2 p) :
    Calls Try.prog 14 #[v1, v2] w fun e w' => e = .returned (.bool true) ∧ Keeps [] w w' := by
  obtain ⟨vv1, sv1, rfl, hv1, hs1, hb, hd⟩ := h1
  obtain ⟨vv2, sv2, rfl, hv2, hs2, _, _⟩ := h2
  obtain ⟨a1, c1, rfl, hc1, hm1⟩ := hv1.form
  obtain ⟨a2, c2, rfl, hc2, hm2⟩ := hs1.form
  obtain ⟨a3, c3, rfl, hc3, hm3⟩ := hv2.form
  obtain ⟨a4, c4, rfl, hc4, hm4⟩ := hs2.form
  unfold maxLen at hm1 hm2 hm3 hm4
  obtain ⟨C1, hC1⟩ : ∃ C, C = pfCells p (.slice a1 p.val.length c1) (.slice a2 p.sums.length c2) := ⟨_, rfl⟩
  obtain ⟨C2, hC2⟩ : ∃ C, C = pfCells p (.slice a3 p.val.length c3) (.slice a4 p.sums.length c4) := ⟨_, rfl⟩
  rw [← hC1, ← hC2]
  obtain ⟨w1, hw1⟩ : ∃ w1, w1 = (w.alloc (.cells C1.toArray 30 (0, 0))).alloc (.cells C2.toArray 30 (0, 0)) := ⟨_, rfl⟩
  have hk1 : Keeps [] w w1 := by rw [hw1]; exact ((Keeps.refl _ _).alloc _).alloc _
  have hx1 : w1.heap[w.heap.size]? = some (.cells C1.toArray 30 (0, 0)) := by rw [hw1, heap_old_at (by simp), heap_new_at rfl]
  have hx2 : w1.heap[w.heap.size + 1]? = some (.cells C2.toArray 30 (0, 0)) := by rw [hw1, heap_new_at (by simp)]
  have hcl := fun (wx : World) (hx : wx.heap[w.heap.size]? = some (.cells C1.toArray 30 (0, 0))) (hy : wx.heap[w.heap.size + 1]? = some (.cells C2.toArray 30 (0, 0))) =>
    And.intro (And.intro (pf_cells (hC1 ▸ hx) hb) (pf_cells (hC2 ▸ hy) hb)) (And.intro (pf_bits (hC1 ▸ hx) hb) (pf_bits (hC2 ▸ hy) hb))
  have HCL := Lib.hid hcl
  obtain ⟨⟨⟨e0, e1, e34⟩, f0, f1, f34⟩, _⟩ := hcl w1 hx1 hx2
  have hq := fun w => run_equalIn_bytes w 9998 Try.underlying27 hb hb
  have hqd := fun w (l : List UInt8) (h : l.length = 32) => run_equalIn_bytes w 9998 Try.underlying45 h h
  have cS := sameBytes_any (hv1.keeps hk1 (by simp)) (hv2.keeps hk1 (by simp))
  simp only [beq_self_eq_true] at hq hqd cS
  have CS := Lib.hid cS
  have HS := Lib.hid (size_32_of hb)
  have HS1 := Lib.hid hs1
  have HS2 := Lib.hid hs2
  have HD := Lib.hid hd
  have HX1 := Lib.hid hx1
  have HX2 := Lib.hid hx2
  have HW := Lib.hid hw1
  have HQD := Lib.hid hqd
  have b0 : ((p.val.length : Int) != (p.val.length : Int)) = false := by simp
  have b1 : ((p.sums.length : Int) != (p.sums.length : Int)) = false := by simp
  have l1 := lt_of_heap hx1
  have l2 := lt_of_heap hx2
  clear hx1 hx2 hC1 hC2 hv1 hv2 hs1 hs2 cS hb hd hcl hqd
  go_enter Try.func14, Try.ntmps14
  go_upto_region 1 with fail
  rw [← HW.out]
  clear hw1
  go_wp2_with fail
  refine CS.out.mono ?_
  rintro e w2 ⟨rfl, hk2⟩
  have hx1 := (hk2.block _ l1 (by simp)).trans HX1.out
  have hx2 := (hk2.block _ l2 (by simp)).trans HX2.out
  clear e0 e1 e34 f0 f1 f34
  obtain ⟨⟨⟨e0, e1, e34⟩, f0, f1, f34⟩, r1, r2⟩ := HCL.out w2 hx1 hx2
  have R1 := Lib.hid r1
  have R2 := Lib.hid r2
  have K2 := Lib.hid (And.intro hx1 hx2)
  have hk02 := hk1.trans (G := []) hk2 (by simp)
  clear r1 r2 hx1 hx2
  go_wp2_with (first
    | (refine Go.BigFrame.wpList_want (by rfl) fun K hK => wp_load_mid 27 (.tmp 20) rfl w.heap.size 2 (by rfl) (p.bits.map B) _ R1.out Try.underlying27 rfl HS.out (hK _ _ ?_))
    | (refine Go.BigFrame.wpList_want (by rfl) fun K hK => wp_load_mid 27 (.tmp 22) rfl (w.heap.size + 1) 2 (by rfl) (p.bits.map B) _ R2.out Try.underlying27 rfl HS.out (hK _ _ ?_)))
  obtain ⟨hx1, hx2⟩ := K2.out
  have KX := Lib.hid (And.intro (And.intro hx1 hx2) hk02)
  clear e0 e1 e34 f0 f1 f34 hq hx1 hx2 hk1 hk2 hk02
  go_loopw [5] (fun i wr => ∃ k : Nat, k ≤ p.sums.length ∧ i = .int .i64 k ∧ (wr.heap[w.heap.size]? = some (.cells C1.toArray 30 (0, 0)) ∧ wr.heap[w.heap.size + 1]? = some (.cells C2.toArray 30 (0, 0))) ∧ Keeps [] w wr) (fun i _ => p.sums.length - (intOf i).toNat)
  case atStart => exact ⟨0, Nat.zero_le _, rfl, KX.out.1, KX.out.2⟩
  case round =>
    obtain ⟨k, hk, rfl, ⟨hx1, hx2⟩, hkr⟩ := hrel
    obtain ⟨⟨⟨e0, e1, e34⟩, f0, f1, f34⟩, r1, r2⟩ := HCL.out wr hx1 hx2
    have KR := Lib.hid (And.intro (And.intro hx1 hx2) hkr)
    clear e0 e1 f0 f1 r1 r2 hx1 hx2 hkr
    by_cases hlt : k < p.sums.length
    · obtain ⟨g1, o1, rfl, hg1, hr1⟩ := HS1.out.at (by omega)
      obtain ⟨g2, o2, rfl, hg2, hr2⟩ := HS2.out.at (by omega)
      have q1 := SumsAt.row hr1 HD.out hlt (KR.out.2.block g1 hg1 (by simp))
      have q2 := SumsAt.row hr2 HD.out hlt (KR.out.2.block g2 hg2 (by simp))
      have hl := HD.out _ (List.getElem_mem hlt)
      have hqx := fun w => HQD.out w _ hl
      have hsd := size_digest_of hl
      obtain ⟨x, hx⟩ : ∃ x, x = p.sums[k] := ⟨_, rfl⟩
      rw [← hx] at q1 q2 hqx hsd
      have b0 : (0 : Int) ≤ (k : Int) := by omega
      have b1 : (k : Int) < (p.sums.length : Int) := by omega
      have Q1 := Lib.hid q1
      have Q2 := Lib.hid q2
      have HSD := Lib.hid hsd
      clear q1 q2 hr1 hr2 hx hl hsd
      go_wp2_with fail
      refine wp_region_held_drew (S := (fun w' => (w'.cell? ⟨w.heap.size, 34, none⟩ = some (Value.slice (some ⟨g1, o1, none⟩) p.sums.length c2) ∧ w'.cell? ⟨w.heap.size + 1, 34, none⟩ = some (Value.slice (some ⟨g2, o2, none⟩) p.sums.length c4)) ∧ (w'.rangeAt g1 (o1 + k * 32) (x.map B) ∧ w'.rangeAt g2 (o2 + k * 32) (x.map B)))) (by kernel_rfl) ?_ (fun hHeld => ?_)
      · exact ⟨⟨e34, f34⟩, Q1.out, Q2.out⟩
      refine' wpAnyH_take (i := 0) (v := _) rfl (by kernel_rfl) (by kernel_rfl) (by kernel_rfl) (fun _ _ _ h => h) (Or.inl ⟨by rfl, ?_⟩) (by assumption) ?_
      rotate_left 1
      · (intro w0 hSw; (try dsimp only at hSw); go_split_ands; go_simp; (try with_reducible rfl))
      try simp only [Act.put, List.setIfInBounds_toArray, List.set_cons_zero, List.set_cons_succ, List.getElem_toArray, List.getElem_cons_zero, List.getElem_cons_succ]
      refine' wpAnyH_take (i := 1) (v := _) rfl (by kernel_rfl) (by kernel_rfl) (by kernel_rfl) (fun _ _ _ h => h) (Or.inl ⟨by rfl, ?_⟩) (by assumption) ?_
      rotate_left 1
      · (intro w0 hSw; (try dsimp only at hSw); go_split_ands; go_simp; (try with_reducible rfl))
      try simp only [Act.put, List.setIfInBounds_toArray, List.set_cons_zero, List.set_cons_succ, List.getElem_toArray, List.getElem_cons_zero, List.getElem_cons_succ]
      refine' wpAnyH_take (i := 2) (v := _) rfl (by kernel_rfl) (by kernel_rfl) (by kernel_rfl) (fun _ _ _ h => h) (Or.inl ⟨by rfl, ?_⟩) (by assumption) ?_
      rotate_left 1
      · (intro w0 hSw; (try dsimp only at hSw); go_split_ands; go_simp; (try with_reducible rfl))
      try simp only [Act.put, List.setIfInBounds_toArray, List.set_cons_zero, List.set_cons_succ, List.getElem_toArray, List.getElem_cons_zero, List.getElem_cons_succ]
      refine' wpAnyH_take (i := 3) (v := _) rfl (by kernel_rfl) (by kernel_rfl) (by kernel_rfl) (fun _ _ _ h => h) (Or.inl ⟨by rfl, ?_⟩) (by assumption) ?_
      rotate_left 1
      · (intro w0 hSw; (try dsimp only at hSw); go_split_ands; go_simp; (try with_reducible rfl))
      try simp only [Act.put, List.setIfInBounds_toArray, List.set_cons_zero, List.set_cons_succ, List.getElem_toArray, List.getElem_cons_zero, List.getElem_cons_succ]
      refine' wpAnyH_take (i := 4) (v := _) rfl (by kernel_rfl) (by kernel_rfl) (by kernel_rfl) (fun _ _ _ h => h) (yieldsIf_load_mid (by rfl) 45 (.tmp 45) rfl g1 (o1 + k * 32) rfl (x.map B) _ (fun _ h => h.2.1) Try.underlying45 rfl HSD.out) (by assumption) ?_
      try simp only [Act.put, List.setIfInBounds_toArray, List.set_cons_zero, List.set_cons_succ, List.getElem_toArray, List.getElem_cons_zero, List.getElem_cons_succ]
      refine' wpAnyH_take (i := 5) (v := _) rfl (by kernel_rfl) (by kernel_rfl) (by kernel_rfl) (fun _ _ _ h => h) (Or.inl ⟨by rfl, ?_⟩) (by assumption) ?_
      rotate_left 1
      · (intro w0 hSw; (try dsimp only at hSw); go_split_ands; go_simp; (try with_reducible rfl))
      try simp only [Act.put, List.setIfInBounds_toArray, List.set_cons_zero, List.set_cons_succ, List.getElem_toArray, List.getElem_cons_zero, List.getElem_cons_succ]
      refine' wpAnyH_take (i := 6) (v := _) rfl (by kernel_rfl) (by kernel_rfl) (by kernel_rfl) (fun _ _ _ h => h) (Or.inl ⟨by rfl, ?_⟩) (by assumption) ?_
      rotate_left 1
      · (intro w0 hSw; (try dsimp only at hSw); go_split_ands; go_simp; (try with_reducible rfl))
      try simp only [Act.put, List.setIfInBounds_toArray, List.set_cons_zero, List.set_cons_succ, List.getElem_toArray, List.getElem_cons_zero, List.getElem_cons_succ]
      refine' wpAnyH_take (i := 7) (v := _) rfl (by kernel_rfl) (by kernel_rfl) (by kernel_rfl) (fun _ _ _ h => h) (Or.inl ⟨by rfl, ?_⟩) (by assumption) ?_
      rotate_left 1
      · (intro w0 hSw; (try dsimp only at hSw); go_split_ands; go_simp; (try with_reducible rfl))
      try simp only [Act.put, List.setIfInBounds_toArray, List.set_cons_zero, List.set_cons_succ, List.getElem_toArray, List.getElem_cons_zero, List.getElem_cons_succ]
      refine' wpAnyH_take (i := 8) (v := _) rfl (by kernel_rfl) (by kernel_rfl) (by kernel_rfl) (fun _ _ _ h => h) (Or.inl ⟨by rfl, ?_⟩) (by assumption) ?_
      rotate_left 1
      · (intro w0 hSw; (try dsimp only at hSw); go_split_ands; go_simp; (try with_reducible rfl))
      try simp only [Act.put, List.setIfInBounds_toArray, List.set_cons_zero, List.set_cons_succ, List.getElem_toArray, List.getElem_cons_zero, List.getElem_cons_succ]
      refine' wpAnyH_take (i := 9) (v := _) rfl (by kernel_rfl) (by kernel_rfl) (by kernel_rfl) (fun _ _ _ h => h) (yieldsIf_load_mid (by rfl) 45 (.tmp 50) rfl g2 (o2 + k * 32) rfl (x.map B) _ (fun _ h => h.2.2) Try.underlying45 rfl HSD.out) (by assumption) ?_
      try simp only [Act.put, List.setIfInBounds_toArray, List.set_cons_zero, List.set_cons_succ, List.getElem_toArray, List.getElem_cons_zero, List.getElem_cons_succ]
      refine' wpAnyH_take (i := 10) (v := _) rfl (by kernel_rfl) (by kernel_rfl) (by kernel_rfl) (fun _ _ _ h => h) (Or.inl ⟨by rfl, ?_⟩) (by assumption) ?_
      rotate_left 1
      · (intro w0 hSw; (try dsimp only at hSw); go_split_ands; go_simp; (try with_reducible rfl))
      try simp only [Act.put, List.setIfInBounds_toArray, List.set_cons_zero, List.set_cons_succ, List.getElem_toArray, List.getElem_cons_zero, List.getElem_cons_succ]
      refine wpAnyH_done (by kernel_rfl) ?_ _
      go_wp2_with fail
      go_roundw
      case rel => exact ⟨k + 1, by omega, by go_num, KR.out.1, KR.out.2.drew⟩
      case measure => simp [intOf]; omega
    · go_wp2_with fail
      go_ret
      exact ⟨rfl, KR.out.2⟩
end Go.Proofs.Ytnobhfpjchofpaa
