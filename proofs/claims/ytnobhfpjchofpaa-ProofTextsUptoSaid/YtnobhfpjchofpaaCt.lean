/-
  The document's answer for layer 12: Decode, behind the head.
-/
import Derived.Test.YtnobhfpjchofpaaCs
namespace Go.Proofs.Ytnobhfpjchofpaa
set_option linter.unusedVariables false
set_option linter.unusedSimpArgs false
open Go.RowKit

/-- What is told of a proof whose bytes end so: right: that proof; else none. -/
def REnd (f : Bool) (x t : List UInt8) (w : World) (e : Ending) (w' : World) : Prop :=
  if (t.drop 32).length = 32 * onesOf (t.take 32) then ∃ u, e = .returned (.tuple #[u, .int .i64 0]) ∧ PfIn w' u ⟨f, x, t.take 32, chunksOf (t.drop 32) (onesOf (t.take 32))⟩ ∧ Keeps [] w w'
  else ∃ u, e = .returned (.tuple #[u, .int .i64 120]) ∧ PfIn w' u pf0 ∧ Keeps [] w w'
theorem REnd.no {f : Bool} {x t : List UInt8} {w w' : World} {e : Ending} (h : (t.drop 32).length ≠ 32 * onesOf (t.take 32)) (h2 : ∃ u, e = .returned (.tuple #[u, .int .i64 120]) ∧ PfIn w' u pf0 ∧ Keeps [] w w') : REnd f x t w e w' := by unfold REnd; rw [if_neg h]; exact h2
theorem REnd.yes {f : Bool} {x t : List UInt8} {w w' : World} {e : Ending} (h : (t.drop 32).length = 32 * onesOf (t.take 32)) (h2 : ∃ u, e = .returned (.tuple #[u, .int .i64 0]) ∧ PfIn w' u ⟨f, x, t.take 32, chunksOf (t.drop 32) (onesOf (t.take 32))⟩ ∧ Keeps [] w w') : REnd f x t w e w' := by unfold REnd; rw [if_pos h]; exact h2
theorem zero_cells : (zero32.map B).toArray = Array.replicate 32 (Value.int .u8 0) := by rfl
theorem chunk_get {s : List UInt8} {k j : Nat} {b : UInt8} (h : (chunkAt s k)[j]? = some b) : s[32 * k + j]? = some b := by
  unfold chunkAt at h
  rw [List.getElem?_take] at h
  split at h
  · rwa [List.getElem?_drop] at h
  · cases h
theorem row_set {w : World} {b : Nat} {l : List UInt8} {t : TypeId} (h : w.heap[b]? = some (.cells (l.map B).toArray t (0, 0))) (j : Nat) (x : UInt8) : (w.setCell ⟨b, j, none⟩ (B x)).heap[b]? = some (.cells ((l.set j x).map B).toArray t (0, 0)) := by
  have h2 := heap_setCell_same w b j _ _ (B x) h
  rw [List.setIfInBounds_toArray, ← List.map_set] at h2
  exact h2
theorem row_cell {w : World} {b : Nat} {l : List UInt8} {t : TypeId} (h : w.heap[b]? = some (.cells (l.map B).toArray t (0, 0))) {j : Nat} {x : UInt8} (hx : l[j]? = some x) : w.cell? ⟨b, j, none⟩ = some (.int .u8 x.toNat) := by
  rw [cell_of_row w b _ _ _ _ h, List.getElem?_toArray, List.getElem?_map, hx]
  rfl

set_option maxRecDepth 100000 in
set_option maxHeartbeats 3200000 in
theorem refdec_zero_short {w : World} {v : Value} {l : List UInt8} (hv : BytesAt w v l) {t : List UInt8} (hl : l = 0 :: t) (h32 : t.length < 32) :
    Calls Try.prog 25 #[v] w fun e w' => ∃ u, e = .returned (.tuple #[u, .int .i64 120]) ∧ PfIn w' u pf0 ∧ Keeps [] w w' := by
  subst hl
  obtain ⟨a, c, rfl, hc, hm⟩ := hv.form
  obtain ⟨Z, hZ⟩ : ∃ Z, Z = (pfCells pf0 (.slice none 0 0) (.slice none 0 0)) := ⟨_, rfl⟩
  have hal := fun (w : World) => run_alloc (P := Try.prog) w info_proof
  rw [zProof_cells, show (⟨false, [], List.replicate 32 0, []⟩ : Pf) = pf0 from rfl, ← hZ] at hal
  obtain ⟨w0, hw0⟩ : ∃ w0, w0 = (w.alloc (.cells Z.toArray 30 (0, 0))).alloc (.cells Z.toArray 30 (0, 0)) := ⟨_, rfl⟩
  have x0 : w0.heap[w.heap.size]? = some (.cells Z.toArray 30 (0, 0)) := by rw [hw0, heap_old_at (by simp), heap_new_at rfl]
  have x1 : w0.heap[w.heap.size + 1]? = some (.cells Z.toArray 30 (0, 0)) := by rw [hw0, heap_new_at (by simp)]
  have K0 : Keeps [] w w0 := by rw [hw0]; exact ((Keeps.refl _ _).alloc _).alloc _
  have s1 : (w.alloc (.cells Z.toArray 30 (0, 0))).heap.size = w.heap.size + 1 := by simp
  have hzl : Z.length = 35 := by rw [hZ]; exact pf_length (by simp [pf0, zero32]) _ _
  have hz1 : ∀ v ∈ Z, v.oneCell' = true := by rw [hZ]; exact pf_ones
  have hbz := run_build_zero
  rw [← hZ] at hbz
  unfold maxLen at hm
  have HBZ := Lib.hid hbz
  have HZ := Lib.hid hZ
  have HAL := Lib.hid hal
  have HW := Lib.hid hw0
  have S1 := Lib.hid s1
  have X0 := Lib.hid x0
  have X1 := Lib.hid x1
  have HZL := Lib.hid hzl
  have HZ1 := Lib.hid hz1
  have y0 := lt_of_heap x0
  have y1 := lt_of_heap x1
  have HV := Lib.hid hv
  clear hZ hal hw0 s1 x1 hv hzl hz1 hbz x0
  obtain ⟨g, o, rfl, hg, hr⟩ := HV.out.at (by simp)
  have c0 := range_byte (w' := w0) hr (K0.block g hg (by simp)) (k := 0) rfl
  rw [Nat.add_zero] at c0
  have c0' : w0.cell? ⟨g, o, none⟩ = some (.int .u8 0) := c0
  obtain ⟨N, hN⟩ : ∃ N, N = (0 :: t : List UInt8).length := ⟨_, rfl⟩
  have N1 : N = 1 + t.length := by rw [hN]; simp; omega
  rw [← hN] at hc ⊢
  have n0 : 0 < N := by omega
  have n00 : ((N : Int) == 0) = false := by simp; omega
  have hat : ∀ i x, t[i]? = some x → (0 :: t : List UInt8)[1 + i]? = some x := fun i x h => by rw [Nat.add_comm, List.getElem?_cons_succ]; exact h
  obtain ⟨l0, hl0⟩ : ∃ l0 : List UInt8, l0 = 0 :: t := ⟨_, rfl⟩
  rw [← hl0] at hr hat
  have HNA := Lib.hid N1
  have HNN := Lib.hid hN
  have HR := Lib.hid hr
  have HAT := Lib.hid hat
  have HL0 := Lib.hid hl0
  clear c0 hN N1 hr hat hl0
  go_enter Try.func25, Try.ntmps25
  go_upto_region 2 with (refine wl_alloc rfl 30 rfl ?_; refine ⟨_, _, HAL.out _, ?_⟩; try simp only [Act.put, List.setIfInBounds_toArray, List.set_cons_zero, List.set_cons_succ, List.getElem_toArray, List.getElem_cons_zero, List.getElem_cons_succ])
  rw [S1.out, ← HW.out]
  go_upto_region 12 with fail
  all_goals
    clear c0' n00
    have g7 : (N : Int) < 33 := by have := HNA.out; omega
    have hst := run_store_pf X0.out HZL.out HZL.out HZ1.out
    have hall := store_all (cs := Z) X0.out rfl
    have HST := Lib.hid hst
    have HALL := Lib.hid hall
    clear hst hall
    go_wp2_with (first | (refine wl_build rfl 30 #[] #[] rfl (by simp [Act.eval]) ?_; refine ⟨_, _, HBZ.out _, ?_⟩; try simp only [Act.put, List.setIfInBounds_toArray, List.set_cons_zero, List.set_cons_succ, List.getElem_toArray, List.getElem_cons_zero, List.getElem_cons_succ]) | (refine wl_store rfl 30 (.tmp 2) (.tmp 63) rfl ?_; refine ⟨_, HST.out, ?_⟩; try simp only [Act.put, List.setIfInBounds_toArray, List.set_cons_zero, List.set_cons_succ, List.getElem_toArray, List.getElem_cons_zero, List.getElem_cons_succ]))
    refine bodyPost_ret (results_pf2 (b := w.heap.size) rfl rfl rfl (rangeAt_all HALL.out) HZL.out) rfl ⟨_, rfl, ⟨_, _, by rw [HZ.out], BytesAt_nil _, .inl ⟨rfl, none, 0, rfl, by simp [maxLen]⟩, by simp [pf0, zero32], by simp [pf0]⟩, (K0).setCells (.inr (Nat.le_refl _)) 0 _⟩
set_option maxRecDepth 100000 in
set_option maxHeartbeats 3200000 in
theorem refdec_zero_long {w : World} {v : Value} {l : List UInt8} (hv : BytesAt w v l) {t : List UInt8} (hl : l = 0 :: t) (h32 : 32 ≤ t.length) (hlen : l.length ≤ 2097152) :
    Calls Try.prog 25 #[v] w fun e w' => REnd false [] t w e w' := by
  subst hl
  obtain ⟨a, c, rfl, hc, hm⟩ := hv.form
  obtain ⟨Z, hZ⟩ : ∃ Z, Z = (pfCells pf0 (.slice none 0 0) (.slice none 0 0)) := ⟨_, rfl⟩
  have hal := fun (w : World) => run_alloc (P := Try.prog) w info_proof
  rw [zProof_cells, show (⟨false, [], List.replicate 32 0, []⟩ : Pf) = pf0 from rfl, ← hZ] at hal
  obtain ⟨w0, hw0⟩ : ∃ w0, w0 = (w.alloc (.cells Z.toArray 30 (0, 0))).alloc (.cells Z.toArray 30 (0, 0)) := ⟨_, rfl⟩
  have x0 : w0.heap[w.heap.size]? = some (.cells Z.toArray 30 (0, 0)) := by rw [hw0, heap_old_at (by simp), heap_new_at rfl]
  have x1 : w0.heap[w.heap.size + 1]? = some (.cells Z.toArray 30 (0, 0)) := by rw [hw0, heap_new_at (by simp)]
  have K0 : Keeps [] w w0 := by rw [hw0]; exact ((Keeps.refl _ _).alloc _).alloc _
  have s1 : (w.alloc (.cells Z.toArray 30 (0, 0))).heap.size = w.heap.size + 1 := by simp
  have hzl : Z.length = 35 := by rw [hZ]; exact pf_length (by simp [pf0, zero32]) _ _
  have hz1 : ∀ v ∈ Z, v.oneCell' = true := by rw [hZ]; exact pf_ones
  have hbz := run_build_zero
  rw [← hZ] at hbz
  unfold maxLen at hm
  have HBZ := Lib.hid hbz
  have HZ := Lib.hid hZ
  have HAL := Lib.hid hal
  have HW := Lib.hid hw0
  have S1 := Lib.hid s1
  have X0 := Lib.hid x0
  have X1 := Lib.hid x1
  have HZL := Lib.hid hzl
  have HZ1 := Lib.hid hz1
  have y0 := lt_of_heap x0
  have y1 := lt_of_heap x1
  have HV := Lib.hid hv
  clear hZ hal hw0 s1 x1 hv hzl hz1 hbz x0
  obtain ⟨g, o, rfl, hg, hr⟩ := HV.out.at (by simp)
  have c0 := range_byte (w' := w0) hr (K0.block g hg (by simp)) (k := 0) rfl
  rw [Nat.add_zero] at c0
  have c0' : w0.cell? ⟨g, o, none⟩ = some (.int .u8 0) := c0
  obtain ⟨N, hN⟩ : ∃ N, N = (0 :: t : List UInt8).length := ⟨_, rfl⟩
  have N1 : N = 1 + t.length := by rw [hN]; simp; omega
  rw [← hN] at hc hlen ⊢
  have n3 : (3 : Int) ≤ (N : Int) := by omega
  have n0 : 0 < N := by omega
  have n00 : ((N : Int) == 0) = false := by simp; omega
  have hat : ∀ i x, t[i]? = some x → (0 :: t : List UInt8)[1 + i]? = some x := fun i x h => by rw [Nat.add_comm, List.getElem?_cons_succ]; exact h
  obtain ⟨l0, hl0⟩ : ∃ l0 : List UInt8, l0 = 0 :: t := ⟨_, rfl⟩
  rw [← hl0] at hr hat
  have HNA := Lib.hid N1
  have HNN := Lib.hid hN
  have HR := Lib.hid hr
  have HAT := Lib.hid hat
  have HL0 := Lib.hid hl0
  clear c0 hN N1 hr hat hl0
  go_enter Try.func25, Try.ntmps25
  go_upto_region 2 with (refine wl_alloc rfl 30 rfl ?_; refine ⟨_, _, HAL.out _, ?_⟩; try simp only [Act.put, List.setIfInBounds_toArray, List.set_cons_zero, List.set_cons_succ, List.getElem_toArray, List.getElem_cons_zero, List.getElem_cons_succ])
  rw [S1.out, ← HW.out]
  go_upto_region 12 with fail
  clear c0' n00
  obtain ⟨wt, hwt⟩ : ∃ wt, wt = w0 := ⟨_, rfl⟩
  rw [← hwt]
  have KT : Keeps [] w wt := by rw [hwt]; exact K0
  have hpt : wt.heap[w.heap.size + 1]? = some (.cells (pfCells ⟨false, [], zero32, []⟩ (.slice none 0 0) (.slice none 0 0)).toArray 30 (0, 0)) := by rw [hwt, X1.out, HZ.out]; rfl
  have hzt : wt.heap[w.heap.size]? = some (.cells Z.toArray 30 (0, 0)) := by rw [hwt]; exact X0.out
  have HZT := Lib.hid hzt
  clear hwt hzt
  have y1t := lt_of_heap hpt
  have hgt : g < wt.heap.size := by have := KT.size; omega
  have hrt : wt.rangeAt g o (l0.map B) := rangeAt_of_heap HR.out (KT.block g hg (by simp))
  have g7 : ¬ (N : Int) < 33 := by have := HNA.out; omega
  obtain ⟨bs, hbs⟩ : ∃ bs, bs = t.take 32 := ⟨_, rfl⟩
  obtain ⟨s, hs⟩ : ∃ s, s = t.drop 32 := ⟨_, rfl⟩
  have hbl : bs.length = 32 := by rw [hbs, List.length_take]; omega
  have hsl : t.length = 32 + s.length := by rw [hs, List.length_drop]; omega
  have hab : ∀ i b, bs[i]? = some b → l0[1 + i]? = some b := fun i b h => HAT.out i b (by
    rw [hbs, List.getElem?_take] at h
    split at h
    · exact h
    · cases h)
  have has : ∀ i b, s[i]? = some b → l0[33 + i]? = some b := fun i b h => by
    have := HAT.out (32 + i) b (by rw [hs, List.getElem?_drop] at h; exact h)
    rwa [← Nat.add_assoc] at this
  have HAB := Lib.hid hab
  have HAS := Lib.hid has
  have HBL := Lib.hid hbl
  have HSL := Lib.hid hsl
  have HBS := Lib.hid hbs
  have HSS := Lib.hid hs
  have HRT := Lib.hid hrt
  have HPT := Lib.hid hpt
  have KT0 := Lib.hid KT
  have hszt := KT.size
  clear hbs hs hbl hsl hab has hrt hpt KT
  go_wp2_with fail
  go_loopw [7] (fun i wr => ∃ k : Nat, k ≤ 32 ∧ i = .int .i64 k ∧ wr.heap[w.heap.size + 1]? = some (.cells (pfCells ⟨false, [], bs.take k ++ zero32.drop k, []⟩ (.slice none 0 0) (.slice none 0 0)).toArray 30 (0, 0)) ∧ Keeps [w.heap.size + 1] wt wr) (fun i _ => 32 - (intOf i).toNat)
  case atStart => exact ⟨0, by omega, rfl, HPT.out, Keeps.refl _ _⟩
  case round =>
    obtain ⟨k, hk, rfl, hpr, hkr⟩ := hrel
    have hcl : (bs.take k ++ zero32.drop k).length = 32 := by rw [List.length_append, List.length_take, List.length_drop, HBL.out]; simp [zero32]; omega
    have hszr := hkr.size
    by_cases hlt : k < 32
    · obtain ⟨b, hb⟩ : ∃ b, bs[k]? = some b := ⟨bs[k]'(by rw [HBL.out]; exact hlt), List.getElem?_eq_getElem _⟩
      have e1 := range_byte (w' := wr) HRT.out (hkr.block g hgt (by simp; omega)) (HAB.out k b hb)
      have e2 := frozen_of_row wr (w.heap.size + 1) (2 + k) _ _ hpr
      obtain ⟨b', hb'⟩ : ∃ b' : UInt8, (bs.take k ++ zero32.drop k)[k]? = some b' := ⟨_, List.getElem?_eq_getElem (by omega)⟩
      have e3 := pf_bit_cell hpr hcl hlt hb'
      have hset := heap_setCell_same wr (w.heap.size + 1) (2 + k) _ _ (B b) hpr
      rw [pf_setbit _ _ (by rw [hcl]; exact hlt), part_set (by rw [HBL.out]; rfl) hb] at hset
      have b0 : (0 : Int) ≤ (k : Int) := by omega
      have b1 : (k : Int) < 32 := by omega
      have b2 : 1 + (k : Int) < (N : Int) := by have := HNA.out; omega
      have HSET := Lib.hid hset
      have HB := Lib.hid hb
      have hlp := lt_of_heap hpr
      clear hset hb hb' hpr hcl
      go_wp2_with fail
      go_roundw
      case rel => exact ⟨k + 1, by omega, by go_num, HSET.out, hkr.setCell (.inl (by simp)) _⟩
      case measure => simp [intOf]; omega
    · have e : k = 32 := by omega
      subst e
      simp only [show ((32 : Nat) : Int) = 32 from rfl]
      have ebs : bs.take 32 = bs := List.take_of_length_le (by rw [HBL.out]; exact Nat.le_refl _)
      rw [ebs, show zero32.drop 32 = [] from rfl, List.append_nil] at hpr
      clear ebs
      obtain ⟨w3, rfl⟩ : ∃ w3 : World, w3 = wr := ⟨_, rfl⟩
      have HKT3 := Lib.hid hkr
      have HP3 := Lib.hid hpr
      have K3 := KT0.out.trans (G := [w.heap.size + 1]) hkr (fun k hk => .inr (by simp at hk; omega))
      have hz3 := (hkr.block _ (show w.heap.size < wt.heap.size by omega) (by simp)).trans HZT.out
      have hg3 : g < w3.heap.size := by omega
      have hr3 : w3.rangeAt g o (l0.map B) := rangeAt_of_heap HRT.out (hkr.block g hgt (by simp; omega))
      have y13 := lt_of_heap hpr
      have HZ3 := Lib.hid hz3
      have HR3 := Lib.hid hr3
      have HK3 := Lib.hid K3
      clear hpr hcl hkr hz3 hr3 K3
      go_wp2_with fail
      go_loopw [5] (fun i wr => ∃ (k : Nat) (sv : Value), 33 + 32 * k ≤ N ∧ i = .int .i64 (33 + 32 * (k : Int)) ∧ wr.ownsRow w3.heap.size 45 32 sv k (sumCells (chunksOf s k)) ∧ wr.heap[w.heap.size + 1]? = some (.cells (pfCells ⟨false, [], bs, []⟩ (.slice none 0 0) sv).toArray 30 (0, 0)) ∧ Keeps [w.heap.size + 1] w3 wr) (fun i _ => N - (intOf i).toNat)
      case atStart => exact ⟨0, .slice none 0 0, by have := HNA.out; omega, by go_num, World.ownsRow_nil _ _ _ _, HP3.out, Keeps.refl _ _⟩
      case round =>
        obtain ⟨k, sv, hk, rfl, hown, hpr, hkr⟩ := hrel
        have hov := hown.lt
        have hszr := hkr.size
        have HOWN := Lib.hid hown
        have HPR := Lib.hid hpr
        have HKR := Lib.hid hkr
        clear hown hkr
        by_cases hlt : 33 + 32 * k + 32 ≤ N
        · obtain ⟨q, hq⟩ : ∃ q, q = chunkAt s k := ⟨_, rfl⟩
          have hql : q.length = 32 := by rw [hq]; exact chunkAt_len (by have := HNA.out; have := HSL.out; omega)
          have hqg : ∀ j b, q[j]? = some b → l0[33 + 32 * k + j]? = some b := fun j b hb => by
            rw [Nat.add_assoc]
            exact HAS.out _ b (chunk_get (hq ▸ hb))
          have HQ := Lib.hid hq
          have HQL := Lib.hid hql
          have HQG := Lib.hid hqg
          have hlt' : 33 + 32 * (k : Int) + 32 ≤ (N : Int) := by omega
          have hgr : g < wr.heap.size := by omega
          have hrr : wr.rangeAt g o (l0.map B) := rangeAt_of_heap HR3.out (HKR.out.block g hg3 (by simp; omega))
          have HRR := Lib.hid hrr
          obtain ⟨wo, rfl⟩ : ∃ wo : World, wo = wr := ⟨_, rfl⟩
          clear hq hql hqg hpr hrr
          go_wp2_with (refine wl_alloc rfl 45 rfl ?_; refine ⟨_, _, run_alloc _ info_digest, ?_⟩; try simp only [Act.put, List.setIfInBounds_toArray, List.set_cons_zero, List.set_cons_succ, List.getElem_toArray, List.getElem_cons_zero, List.getElem_cons_succ])
          go_loopw [9] (fun i wr => ∃ j : Nat, j ≤ 32 ∧ i = .int .i64 j ∧ wr.heap[wo.heap.size]? = some (.cells ((q.take j ++ zero32.drop j).map B).toArray 45 (0, 0)) ∧ Keeps [] wo wr) (fun i _ => 32 - (intOf i).toNat)
          case atStart => exact ⟨0, by omega, rfl, by rw [List.take_zero, List.nil_append, List.drop_zero, zero_cells]; exact heap_new_at rfl, (Keeps.refl _ _).alloc _⟩
          case round =>
            obtain ⟨j, hj, rfl, hdr, hkd⟩ := hrel
            have hszd := hkd.size
            by_cases hjt : j < 32
            · obtain ⟨b, hb⟩ : ∃ b, q[j]? = some b := ⟨q[j]'(by rw [HQL.out]; exact hjt), List.getElem?_eq_getElem _⟩
              have e1 := range_byte (w' := wr) HRR.out (hkd.block g hgr (by simp)) (HQG.out j b hb)
              have e2 := frozen_of_row wr wo.heap.size j _ _ hdr
              obtain ⟨b', hb'⟩ : ∃ b' : UInt8, (q.take j ++ zero32.drop j)[j]? = some b' := ⟨_, List.getElem?_eq_getElem (by rw [List.length_append, List.length_take, List.length_drop, HQL.out]; simp [zero32]; omega)⟩
              have e3 := row_cell hdr hb'
              have hset := row_set hdr j b
              rw [part_set (by rw [HQL.out]; rfl) hb] at hset
              have b0 : (0 : Int) ≤ (j : Int) := by omega
              have b1 : (j : Int) < 32 := by omega
              have b2 : 33 + 32 * (k : Int) + (j : Int) < (N : Int) := by omega
              have HSET := Lib.hid hset
              have hld := lt_of_heap hdr
              clear hset hb hb' hdr
              go_wp2_with fail
              go_roundw
              case rel => exact ⟨j + 1, by omega, by go_num, HSET.out, hkd.setCell (.inr (Nat.le_refl _)) _⟩
              case measure => simp [intOf]; omega
            · have e : j = 32 := by omega
              subst e
              simp only [show ((32 : Nat) : Int) = 32 from rfl]
              rw [List.take_of_length_le (by rw [HQL.out]; exact Nat.le_refl _), show zero32.drop 32 = [] from rfl, List.append_nil] at hdr
              have hpw := (hkd.block (w.heap.size + 1) (by omega) (by simp)).trans HPR.out
              have q34 := (pf_cells hpw HBL.out).2.2
              have f34 := frozen_of_row wr (w.heap.size + 1) 34 _ _ hpw
              have howr : wr.ownsRow w3.heap.size 45 32 sv k (sumCells (chunksOf s k)) := ownsRow_keep HOWN.out (fun j hj => hkd.block j (hov j hj).2 (by simp))
              have l1 := howr.alloc (.cells (q.map B).toArray 45 (0, 0))
              have l2 : ∀ j u, (q.map B)[j]? = some u → (wr.alloc (.cells (q.map B).toArray 45 (0, 0))).cell? ((⟨wr.heap.size, 0, none⟩ : Addr).add j) = some u := World.news_of_block (cs := (q.map B).toArray) (t := 45) (fr := (0, 0)) (heap_new_at rfl)
              have l4 : (q.map B).length = 1 * 32 := by rw [List.length_map, HQL.out]
              have l5 : (wr.alloc (.cells (q.map B).toArray 45 (0, 0))).heap.size = wr.heap.size + 1 := by simp
              obtain ⟨i0, hi0, hz0, hz1, hz2⟩ := info_parts info_digest
              have HI0 := Lib.hid hi0
              have HZ0 := Lib.hid hz0
              have HZ1 := Lib.hid hz1
              have HZ2 := Lib.hid hz2
              have HL1 := Lib.hid l1
              have HL2 := Lib.hid l2
              have HL4 := Lib.hid l4
              have HL5 := Lib.hid l5
              have HPW := Lib.hid hpw
              have HRD := Lib.hid (rangeAt_all hdr)
              have HSD := Lib.hid (size_digest_of HQL.out)
              have hlpw := lt_of_heap hpw
              have hovp : sv.ownBlock ≠ some (w.heap.size + 1) := fun e => by have := (hov _ e).1; omega
              have HKD := Lib.hid hkd
              clear hi0 hz0 hz1 hz2 l1 l2 l4 l5 hpw hdr howr hkd
              go_wp2_with (first
                | (refine wpList_load_mid rfl 45 (.tmp 8) rfl wo.heap.size 0 (by rfl) (q.map B) _ HRD.out Try.underlying45 rfl HSD.out ?_; try simp only [Act.put, List.setIfInBounds_toArray, List.set_cons_zero, List.set_cons_succ, List.getElem_toArray, List.getElem_cons_zero, List.getElem_cons_succ])
                | (refine wl_buildSlice rfl 28 1 #[(0, .tmp 100)] #[(0, .agg (q.map B).toArray)] rfl (by simp [Act.eval]) ?_; refine ⟨_, _, run_buildSlice_one _ Try.underlying28 info_digest (cs := (q.map B).toArray) (by simpa using HQL.out) (by omega) (by omega), ?_⟩; try simp only [Act.put, List.setIfInBounds_toArray, List.set_cons_zero, List.set_cons_succ, List.getElem_toArray, List.getElem_cons_zero, List.getElem_cons_succ])
                | (refine wpList_append_lies _ rfl (.tmp 99) (.tmp 101) 28 rfl w3.heap.size 45 i0 (.agg (Array.replicate 32 (.int .u8 0))) 32 32 Try.underlying28 HI0.out HZ0.out HZ1.out HZ2.out (by simp [Value.cells]) (by omega) sv k (sumCells (chunksOf s k)) (by rfl) HL1.out ⟨wr.heap.size, 0, none⟩ 1 1 (q.map B) (by rfl) HL4.out HL2.out (B_one q) (by omega) (by simp only [maxLen]; omega) (by omega) (by rw [HL5.out]; omega) (wr.heap.size + 1) HL5.out ?_))
              intro gq cap wn h1 h2 h3 h4
              have fq : wn.heap[w.heap.size + 1]? = wr.heap[w.heap.size + 1]? := by
                rw [h2.block _ (by simp; omega) (fun e => hovp e.symm)]
                exact heap_old_at hlpw
              have hpn := fq.trans HPW.out
              have q34n := (pf_cells hpn HBL.out).2.2
              have f34n := frozen_of_row wn (w.heap.size + 1) 34 _ _ hpn
              have hkn := ((HKR.out.trans (G := []) HKD.out (by simp)).alloc (.cells (q.map B).toArray 45 (0, 0))).grown h2 (fun j hj => .inr (hov j hj).1)
              have H1 := Lib.hid h1
              have HPN := Lib.hid hpn
              have HKN := Lib.hid hkn
              have hlwn := lt_of_heap hpn
              clear h1 h2 h3 fq hpn hkn q34 f34
              go_wp2_with fail
              go_roundw
              case rel =>
                refine ⟨k + 1, .slice (some ⟨gq, 0, none⟩) (k + 1) cap, by omega, by go_num, ?_, ?_, HKN.out.setCell (.inl (by simp)) _⟩
                · have e : sumCells (chunksOf s (k + 1)) = sumCells (chunksOf s k) ++ q.map B := by
                    rw [chunksOf_succ, ← HQ.out]
                    simp [sumCells]
                  rw [e]
                  refine ownsRow_keep H1.out (fun j hj => Below.heap_setCell _ _ _ _ ?_)
                  have := (World.ownsRow.lt H1.out j hj).1
                  simp
                  omega
                · have h := heap_setCell_same wn (w.heap.size + 1) 34 _ _ (.slice (some ⟨gq, 0, none⟩) (k + 1) cap) HPN.out
                  rw [pf_set34 (p := ⟨false, [], bs, []⟩) HBL.out] at h
                  exact h
              case measure => simp [intOf]; omega
        · obtain ⟨a9, c9, rfl⟩ := owns_slice HOWN.out
          have q34 := (pf_cells hpr HBL.out).2.2
          have hrb := pf_bits hpr HBL.out
          have hlpr := lt_of_heap hpr
          have hzr := (HKR.out.block w.heap.size (by omega) (by simp)).trans HZ3.out
          have KR := HK3.out.trans (G := [w.heap.size + 1]) HKR.out (fun j hj => .inr (by simp at hj; omega))
          have hcl2 : ∀ wx, Keeps [] wr wx → wx.cell? ⟨w.heap.size + 1, 34, none⟩ = some (.slice a9 k c9) ∧ wx.rangeAt (w.heap.size + 1) 2 (bs.map B) := fun wx hk =>
            have h := (hk.block _ hlpr (by simp)).trans HPR.out
            ⟨(pf_cells h HBL.out).2.2, pf_bits h HBL.out⟩
          have HCL2 := Lib.hid hcl2
          have HZR := Lib.hid hzr
          have HSZB := Lib.hid (size_32_of HBL.out)
          clear hpr hrb hzr hcl2 q34
          by_cases hE : 33 + 32 * k = N
          · have g9 : ((33 + 32 * (k : Int)) != (N : Int)) = false := by simp; omega
            go_wp2_with fail
            refine wp_region_held_drew (S := (fun w' => (w'.cell? ⟨w.heap.size + 1, 34, none⟩ = some (.slice a9 k c9) ∧ w'.rangeAt (w.heap.size + 1) 2 (bs.map B)) ∧ Keeps [] wr w')) (by kernel_rfl) ?_ (fun hHeld => ?_)
            · exact ⟨HCL2.out _ (Keeps.refl _ _).drew, (Keeps.refl _ _).drew⟩
            refine' wpAnyH_take (i := 0) (v := _) rfl (by kernel_rfl) (by kernel_rfl) (by kernel_rfl) (fun _ _ _ h => h) (Or.inl ⟨by rfl, ?_⟩) (by assumption) ?_
            rotate_left 1
            · (intro w0 hSw; (try dsimp only at hSw); go_split_ands; go_simp; (try with_reducible rfl))
            try simp only [Act.put, List.setIfInBounds_toArray, List.set_cons_zero, List.set_cons_succ, List.getElem_toArray, List.getElem_cons_zero, List.getElem_cons_succ]
            refine' wpAnyH_take (i := 1) (v := _) rfl (by kernel_rfl) (by kernel_rfl) (by kernel_rfl) (fun _ _ _ h => h) (Or.inl ⟨by rfl, ?_⟩) (by assumption) ?_
            rotate_left 1
            · (intro w0 hSw; (try dsimp only at hSw); go_split_ands; go_simp; (try with_reducible rfl))
            try simp only [Act.put, List.setIfInBounds_toArray, List.set_cons_zero, List.set_cons_succ, List.getElem_toArray, List.getElem_cons_zero, List.getElem_cons_succ]
            refine' wpAnyH_take (i := 2) (v := _) rfl (by kernel_rfl) (by kernel_rfl) (by kernel_rfl) (fun _ _ _ h => h) (Or.inl ⟨by rfl, ?_⟩) (by assumption) ?_
            rotate_left 1
            · (intro w0 hSw; (try dsimp only at hSw); go_split_ands; go_simp; (try with_reducible rfl))
            try simp only [Act.put, List.setIfInBounds_toArray, List.set_cons_zero, List.set_cons_succ, List.getElem_toArray, List.getElem_cons_zero, List.getElem_cons_succ]
            refine' wpAnyH_take (i := 3) (v := _) rfl (by kernel_rfl) (by kernel_rfl) (by kernel_rfl) (fun _ _ _ h => h) (Or.inl ⟨by rfl, ?_⟩) (by assumption) ?_
            rotate_left 1
            · (intro w0 hSw; (try dsimp only at hSw); go_split_ands; go_simp; (try with_reducible rfl))
            try simp only [Act.put, List.setIfInBounds_toArray, List.set_cons_zero, List.set_cons_succ, List.getElem_toArray, List.getElem_cons_zero, List.getElem_cons_succ]
            refine' wpAnyH_take (i := 4) (v := _) rfl (by kernel_rfl) (by kernel_rfl) (by kernel_rfl) (fun _ _ _ h => h) (Or.inl ⟨by rfl, ?_⟩) (by assumption) ?_
            rotate_left 1
            · (intro w0 hSw; (try dsimp only at hSw); go_split_ands; go_simp; (try with_reducible rfl))
            try simp only [Act.put, List.setIfInBounds_toArray, List.set_cons_zero, List.set_cons_succ, List.getElem_toArray, List.getElem_cons_zero, List.getElem_cons_succ]
            refine' wpAnyH_take (i := 5) (v := _) rfl (by kernel_rfl) (by kernel_rfl) (by kernel_rfl) (fun _ _ _ h => h) (Or.inl ⟨by rfl, ?_⟩) (by assumption) ?_
            rotate_left 1
            · (intro w0 hSw; (try dsimp only at hSw); go_split_ands; go_simp; (try with_reducible rfl))
            try simp only [Act.put, List.setIfInBounds_toArray, List.set_cons_zero, List.set_cons_succ, List.getElem_toArray, List.getElem_cons_zero, List.getElem_cons_succ]
            refine' wpAnyH_take (i := 6) (v := _) rfl (by kernel_rfl) (by kernel_rfl) (by kernel_rfl) (fun _ _ _ h => h) (Or.inl ⟨by rfl, ?_⟩) (by assumption) ?_
            rotate_left 1
            · (intro w0 hSw; (try dsimp only at hSw); go_split_ands; go_simp; (try with_reducible rfl))
            try simp only [Act.put, List.setIfInBounds_toArray, List.set_cons_zero, List.set_cons_succ, List.getElem_toArray, List.getElem_cons_zero, List.getElem_cons_succ]
            refine' wpAnyH_take (i := 7) (v := _) rfl (by kernel_rfl) (by kernel_rfl) (by kernel_rfl) (fun _ _ _ h => h) (Or.inl ⟨by rfl, ?_⟩) (by assumption) ?_
            rotate_left 1
            · (intro w0 hSw; (try dsimp only at hSw); go_split_ands; go_simp; (try with_reducible rfl))
            try simp only [Act.put, List.setIfInBounds_toArray, List.set_cons_zero, List.set_cons_succ, List.getElem_toArray, List.getElem_cons_zero, List.getElem_cons_succ]
            refine' wpAnyH_take (i := 8) (v := _) rfl (by kernel_rfl) (by kernel_rfl) (by kernel_rfl) (fun _ _ _ h => h) (Or.inl ⟨by rfl, ?_⟩) (by assumption) ?_
            rotate_left 1
            · (intro w0 hSw; (try dsimp only at hSw); go_split_ands; go_simp; (try with_reducible rfl))
            try simp only [Act.put, List.setIfInBounds_toArray, List.set_cons_zero, List.set_cons_succ, List.getElem_toArray, List.getElem_cons_zero, List.getElem_cons_succ]
            refine' wpAnyH_take (i := 9) (v := _) rfl (by kernel_rfl) (by kernel_rfl) (by kernel_rfl) (fun _ _ _ h => h) (yieldsIf_load_mid (by rfl) 27 (.tmp 112) rfl (w.heap.size + 1) 2 rfl (bs.map B) _ (fun _ h => h.1.2) Try.underlying27 rfl HSZB.out) (by assumption) ?_
            try simp only [Act.put, List.setIfInBounds_toArray, List.set_cons_zero, List.set_cons_succ, List.getElem_toArray, List.getElem_cons_zero, List.getElem_cons_succ]
            refine wpAnyH_ready (rs := [10]) (by kernel_rfl) (by simp) ?_
            refine AllReadyH.cons rfl (fun K hK => ?_) AllReadyH.nil
            go_simp
            refine (refOnes_any bs HBL.out).mono ?_
            rintro e w5 ⟨rfl, hk5⟩
            have hk5a : Keeps [] wr w5 := ((Keeps.refl _ _).drew).trans (G := []) hk5 (by simp)
            obtain ⟨m, hm⟩ : ∃ m, m = onesOf bs := ⟨_, rfl⟩
            rw [← hm]
            refine hK.out _ _ ?_ (fun hHeld => ?_)
            · exact ⟨HCL2.out _ hk5a, hk5a⟩
            clear hK K
            try simp only [Act.put, List.setIfInBounds_toArray, List.set_cons_zero, List.set_cons_succ, List.getElem_toArray, List.getElem_cons_zero, List.getElem_cons_succ]
            have HM := Lib.hid hm
            have hz5 := (hk5a.block w.heap.size (by omega) (by simp)).trans HZR.out
            have hp5 := (hk5a.block _ hlpr (by simp)).trans HPR.out
            have K5 := KR.trans (G := []) hk5a (by simp)
            clear hm
            by_cases hkm : k = m
            · have g10 : ((k : Int) != (m : Int)) = false := by rw [hkm]; simp
              refine' wpAnyH_take (i := 11) (v := _) rfl (by kernel_rfl) (by kernel_rfl) (by kernel_rfl) (fun _ _ _ h => h) (Or.inl ⟨by rfl, ?_⟩) (by assumption) ?_
              rotate_left 1
              · (intro w0 hSw; (try dsimp only at hSw); go_split_ands; go_simp; (try with_reducible rfl))
              try simp only [Act.put, List.setIfInBounds_toArray, List.set_cons_zero, List.set_cons_succ, List.getElem_toArray, List.getElem_cons_zero, List.getElem_cons_succ]
              refine' wpAnyH_take (i := 12) (v := _) rfl (by kernel_rfl) (by kernel_rfl) (by kernel_rfl) (fun _ _ _ h => h) (Or.inl ⟨by rfl, ?_⟩) (by assumption) ?_
              rotate_left 1
              · (intro w0 hSw; (try dsimp only at hSw); go_split_ands; go_simp; (try with_reducible rfl))
              try simp only [Act.put, List.setIfInBounds_toArray, List.set_cons_zero, List.set_cons_succ, List.getElem_toArray, List.getElem_cons_zero, List.getElem_cons_succ]
              refine wpAnyH_done (by kernel_rfl) ?_ _
              obtain ⟨R, hR⟩ : ∃ R, R = pfCells ⟨false, [], bs, []⟩ (.slice none 0 0) (.slice a9 k c9) := ⟨_, rfl⟩
              have hRl : R.length = 35 := by rw [hR]; exact pf_length HBL.out _ _
              have hR1 : ∀ v ∈ R, v.oneCell' = true := by rw [hR]; exact pf_ones
              rw [← hR] at hp5
              have hst := run_store_pf hz5 HZL.out hRl hR1
              have hall := store_all (cs := R) hz5 (by rw [HZL.out, hRl])
              have hrr := rangeAt_all hp5
              have hsr : (Try.prog.info? 30).map (·.size) = some R.length := by rw [size_proof, hRl]
              have HRR9 := Lib.hid hR
              have HST := Lib.hid hst
              have HALL := Lib.hid hall
              have HRA9 := Lib.hid hrr
              have HSR := Lib.hid hsr
              have HRL := Lib.hid hRl
              clear hR hRl hR1 hp5 hst hall hrr hsr hz5
              go_wp2_with (first | (refine wpList_load_mid rfl 30 (.tmp 4) rfl (w.heap.size + 1) 0 (by rfl) R _ HRA9.out Try.underlying30 rfl HSR.out ?_) | (refine wl_store rfl 30 (.tmp 2) (.tmp 118) rfl ?_; refine ⟨_, HST.out, ?_⟩; try simp only [Act.put, List.setIfInBounds_toArray, List.set_cons_zero, List.set_cons_succ, List.getElem_toArray, List.getElem_cons_zero, List.getElem_cons_succ]))
              refine bodyPost_ret (results_pf2 (b := w.heap.size) rfl rfl rfl (rangeAt_all HALL.out) HRL.out) rfl (REnd.yes ?_ ⟨_, rfl, ?_, K5.setCells (.inr (Nat.le_refl _)) 0 R⟩)
              · rw [← HSS.out, ← HBS.out, ← HM.out]
                have := HNA.out; have := HSL.out; omega
              · have ek : k = onesOf bs := hkm.trans HM.out
                rw [← HSS.out, ← HBS.out, ← ek]
                have hls : 32 * k ≤ s.length := by have := HNA.out; have := HSL.out; omega
                refine ⟨(.slice none 0 0), .slice a9 k c9, by rw [HRR9.out]; rfl, ?_, ?_, HBL.out, chunksOf_len hls⟩
                · exact BytesAt_nil _
                · have h := HOWN.out
                  refine ownS_sums (l := chunksOf s k) ?_
                  have el : (chunksOf s k).length = k := by simp [chunksOf]
                  unfold OwnS
                  rw [el]
                  refine ownsRow_keep (ownsRow_base h) (fun j hj => ?_)
                  have hj2 := hov j hj
                  rw [heap_setCells_other _ _ _ (by omega)]
                  exact hk5a.block j hj2.2 (by simp)
            · have g10 : ((k : Int) != (m : Int)) = true := by simp; omega
              refine' wpAnyH_take (i := 11) (v := _) rfl (by kernel_rfl) (by kernel_rfl) (by kernel_rfl) (fun _ _ _ h => h) (Or.inl ⟨by rfl, ?_⟩) (by assumption) ?_
              rotate_left 1
              · (intro w0 hSw; (try dsimp only at hSw); go_split_ands; go_simp; (try with_reducible rfl))
              try simp only [Act.put, List.setIfInBounds_toArray, List.set_cons_zero, List.set_cons_succ, List.getElem_toArray, List.getElem_cons_zero, List.getElem_cons_succ]
              refine' wpAnyH_take (i := 12) (v := _) rfl (by kernel_rfl) (by kernel_rfl) (by kernel_rfl) (fun _ _ _ h => h) (Or.inl ⟨by rfl, ?_⟩) (by assumption) ?_
              rotate_left 1
              · (intro w0 hSw; (try dsimp only at hSw); go_split_ands; go_simp; (try with_reducible rfl))
              try simp only [Act.put, List.setIfInBounds_toArray, List.set_cons_zero, List.set_cons_succ, List.getElem_toArray, List.getElem_cons_zero, List.getElem_cons_succ]
              refine wpAnyH_done (by kernel_rfl) ?_ _
              have hst := run_store_pf hz5 HZL.out HZL.out HZ1.out
              have hall := store_all (cs := Z) hz5 rfl
              have HST := Lib.hid hst
              have HALL := Lib.hid hall
              clear hst hall
              go_wp2_with (first | (refine wl_build rfl 30 #[] #[] rfl (by simp [Act.eval]) ?_; refine ⟨_, _, HBZ.out _, ?_⟩; try simp only [Act.put, List.setIfInBounds_toArray, List.set_cons_zero, List.set_cons_succ, List.getElem_toArray, List.getElem_cons_zero, List.getElem_cons_succ]) | (refine wl_store rfl 30 (.tmp 2) (.tmp 117) rfl ?_; refine ⟨_, HST.out, ?_⟩; try simp only [Act.put, List.setIfInBounds_toArray, List.set_cons_zero, List.set_cons_succ, List.getElem_toArray, List.getElem_cons_zero, List.getElem_cons_succ]))
              refine bodyPost_ret (results_pf2 (b := w.heap.size) rfl rfl rfl (rangeAt_all HALL.out) HZL.out) rfl (REnd.no (by rw [← HSS.out, ← HBS.out, ← HM.out]; have := HNA.out; have := HSL.out; omega) ⟨_, rfl, ⟨_, _, by rw [HZ.out], BytesAt_nil _, .inl ⟨rfl, none, 0, rfl, by simp [maxLen]⟩, by simp [pf0, zero32], by simp [pf0]⟩, (K5).setCells (.inr (Nat.le_refl _)) 0 _⟩)
          · have g9 : ((33 + 32 * (k : Int)) != (N : Int)) = true := by simp; omega
            go_wp2_with fail
            refine wp_region_held_drew (S := (fun w' => Keeps [] wr w')) (by kernel_rfl) ?_ (fun hHeld => ?_)
            · exact (Keeps.refl _ _).drew
            refine' wpAnyH_take (i := 0) (v := _) rfl (by kernel_rfl) (by kernel_rfl) (by kernel_rfl) (fun _ _ _ h => h) (Or.inl ⟨by rfl, ?_⟩) (by assumption) ?_
            rotate_left 1
            · (intro w0 hSw; (try dsimp only at hSw); go_split_ands; go_simp; (try with_reducible rfl))
            try simp only [Act.put, List.setIfInBounds_toArray, List.set_cons_zero, List.set_cons_succ, List.getElem_toArray, List.getElem_cons_zero, List.getElem_cons_succ]
            refine' wpAnyH_take (i := 1) (v := _) rfl (by kernel_rfl) (by kernel_rfl) (by kernel_rfl) (fun _ _ _ h => h) (Or.inl ⟨by rfl, ?_⟩) (by assumption) ?_
            rotate_left 1
            · (intro w0 hSw; (try dsimp only at hSw); go_split_ands; go_simp; (try with_reducible rfl))
            try simp only [Act.put, List.setIfInBounds_toArray, List.set_cons_zero, List.set_cons_succ, List.getElem_toArray, List.getElem_cons_zero, List.getElem_cons_succ]
            refine' wpAnyH_take (i := 2) (v := _) rfl (by kernel_rfl) (by kernel_rfl) (by kernel_rfl) (fun _ _ _ h => h) (Or.inl ⟨by rfl, ?_⟩) (by assumption) ?_
            rotate_left 1
            · (intro w0 hSw; (try dsimp only at hSw); go_split_ands; go_simp; (try with_reducible rfl))
            try simp only [Act.put, List.setIfInBounds_toArray, List.set_cons_zero, List.set_cons_succ, List.getElem_toArray, List.getElem_cons_zero, List.getElem_cons_succ]
            refine' wpAnyH_take (i := 3) (v := _) rfl (by kernel_rfl) (by kernel_rfl) (by kernel_rfl) (fun _ _ _ h => h) (Or.inl ⟨by rfl, ?_⟩) (by assumption) ?_
            rotate_left 1
            · (intro w0 hSw; (try dsimp only at hSw); go_split_ands; go_simp; (try with_reducible rfl))
            try simp only [Act.put, List.setIfInBounds_toArray, List.set_cons_zero, List.set_cons_succ, List.getElem_toArray, List.getElem_cons_zero, List.getElem_cons_succ]
            refine' wpAnyH_take (i := 4) (v := _) rfl (by kernel_rfl) (by kernel_rfl) (by kernel_rfl) (fun _ _ _ h => h) (Or.inl ⟨by rfl, ?_⟩) (by assumption) ?_
            rotate_left 1
            · (intro w0 hSw; (try dsimp only at hSw); go_split_ands; go_simp; (try with_reducible rfl))
            try simp only [Act.put, List.setIfInBounds_toArray, List.set_cons_zero, List.set_cons_succ, List.getElem_toArray, List.getElem_cons_zero, List.getElem_cons_succ]
            refine' wpAnyH_take (i := 5) (v := undef) rfl (by kernel_rfl) (by kernel_rfl) (by kernel_rfl) (fun _ _ _ h => h) (Or.inr ⟨by rfl, rfl⟩) (by assumption) ?_
            try simp only [Act.put, List.setIfInBounds_toArray, List.set_cons_zero, List.set_cons_succ, List.getElem_toArray, List.getElem_cons_zero, List.getElem_cons_succ]
            refine' wpAnyH_take (i := 6) (v := undef) rfl (by kernel_rfl) (by kernel_rfl) (by kernel_rfl) (fun _ _ _ h => h) (Or.inr ⟨by rfl, rfl⟩) (by assumption) ?_
            try simp only [Act.put, List.setIfInBounds_toArray, List.set_cons_zero, List.set_cons_succ, List.getElem_toArray, List.getElem_cons_zero, List.getElem_cons_succ]
            refine' wpAnyH_take (i := 7) (v := undef) rfl (by kernel_rfl) (by kernel_rfl) (by kernel_rfl) (fun _ _ _ h => h) (Or.inr ⟨by rfl, rfl⟩) (by assumption) ?_
            try simp only [Act.put, List.setIfInBounds_toArray, List.set_cons_zero, List.set_cons_succ, List.getElem_toArray, List.getElem_cons_zero, List.getElem_cons_succ]
            refine' wpAnyH_take (i := 8) (v := undef) rfl (by kernel_rfl) (by kernel_rfl) (by kernel_rfl) (fun _ _ _ h => h) (Or.inr ⟨by rfl, rfl⟩) (by assumption) ?_
            try simp only [Act.put, List.setIfInBounds_toArray, List.set_cons_zero, List.set_cons_succ, List.getElem_toArray, List.getElem_cons_zero, List.getElem_cons_succ]
            refine' wpAnyH_take (i := 9) (v := undef) rfl (by kernel_rfl) (by kernel_rfl) (by kernel_rfl) (fun _ _ _ h => h) (Or.inr ⟨by rfl, rfl⟩) (by assumption) ?_
            try simp only [Act.put, List.setIfInBounds_toArray, List.set_cons_zero, List.set_cons_succ, List.getElem_toArray, List.getElem_cons_zero, List.getElem_cons_succ]
            refine' wpAnyH_take (i := 10) (v := undef) rfl (by kernel_rfl) (by kernel_rfl) (by kernel_rfl) (fun _ _ _ h => h) (Or.inr ⟨by rfl, rfl⟩) (by assumption) ?_
            try simp only [Act.put, List.setIfInBounds_toArray, List.set_cons_zero, List.set_cons_succ, List.getElem_toArray, List.getElem_cons_zero, List.getElem_cons_succ]
            refine' wpAnyH_take (i := 11) (v := undef) rfl (by kernel_rfl) (by kernel_rfl) (by kernel_rfl) (fun _ _ _ h => h) (Or.inr ⟨by rfl, rfl⟩) (by assumption) ?_
            try simp only [Act.put, List.setIfInBounds_toArray, List.set_cons_zero, List.set_cons_succ, List.getElem_toArray, List.getElem_cons_zero, List.getElem_cons_succ]
            refine' wpAnyH_take (i := 12) (v := _) rfl (by kernel_rfl) (by kernel_rfl) (by kernel_rfl) (fun _ _ _ h => h) (Or.inl ⟨by rfl, ?_⟩) (by assumption) ?_
            rotate_left 1
            · (intro w0 hSw; (try dsimp only at hSw); go_split_ands; go_simp; (try with_reducible rfl))
            try simp only [Act.put, List.setIfInBounds_toArray, List.set_cons_zero, List.set_cons_succ, List.getElem_toArray, List.getElem_cons_zero, List.getElem_cons_succ]
            refine wpAnyH_done (by kernel_rfl) ?_ _
            have hzw : wr.drew.heap[w.heap.size]? = some (.cells Z.toArray 30 (0, 0)) := HZR.out
            have hst := run_store_pf hzw HZL.out HZL.out HZ1.out
            have hall := store_all (cs := Z) hzw rfl
            have HST := Lib.hid hst
            have HALL := Lib.hid hall
            clear hst hall
            go_wp2_with (first | (refine wl_build rfl 30 #[] #[] rfl (by simp [Act.eval]) ?_; refine ⟨_, _, HBZ.out _, ?_⟩; try simp only [Act.put, List.setIfInBounds_toArray, List.set_cons_zero, List.set_cons_succ, List.getElem_toArray, List.getElem_cons_zero, List.getElem_cons_succ]) | (refine wl_store rfl 30 (.tmp 2) (.tmp 117) rfl ?_; refine ⟨_, HST.out, ?_⟩; try simp only [Act.put, List.setIfInBounds_toArray, List.set_cons_zero, List.set_cons_succ, List.getElem_toArray, List.getElem_cons_zero, List.getElem_cons_succ]))
            refine bodyPost_ret (results_pf2 (b := w.heap.size) rfl rfl rfl (rangeAt_all HALL.out) HZL.out) rfl (REnd.no (by rw [← HSS.out, ← HBS.out]; have := HNA.out; have := HSL.out; omega) ⟨_, rfl, ⟨_, _, by rw [HZ.out], BytesAt_nil _, .inl ⟨rfl, none, 0, rfl, by simp [maxLen]⟩, by simp [pf0, zero32], by simp [pf0]⟩, (KR.drew).setCells (.inr (Nat.le_refl _)) 0 _⟩)
end Go.Proofs.Ytnobhfpjchofpaa
