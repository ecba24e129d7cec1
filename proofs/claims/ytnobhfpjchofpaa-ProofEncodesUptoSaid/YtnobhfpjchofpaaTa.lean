/-
  Layer 12's law: texts, of either kind.
-/
import Derived.Test.YtnobhfpjchofpaaTb
namespace Go.Proofs.Ytnobhfpjchofpaa
set_option linter.unusedVariables false
set_option linter.unusedSimpArgs false
open Go.RowKit
theorem range_part0 {w : World} {b : Nat} {x : Value} {xs ys : List Value} (h : w.rangeAt b 0 ([x] ++ xs ++ ys)) : w.rangeAt b 1 xs := by
  have := range_part h
  simpa using this

set_option maxRecDepth 100000 in
set_option maxHeartbeats 6400000 in
theorem texts_any {w : World} {v : Value} {pts : List Pt} (enc dec : Bool) (hv : PtsAt w v pts) (hb : ∀ x ∈ pts, x.pf.val.length + x.pf.sums.length + x.raw.length ≤ 1048576) :
    Calls Try.prog 9 #[v, .bool enc, .bool dec] w fun e w' => e = .returned (.bool true) ∧ Keeps [] w w' := by
  obtain ⟨a, c, rfl, hc, hm⟩ := hv.form
  unfold maxLen at hm
  have HV := Lib.hid hv
  have HB := Lib.hid hb
  have hal := fun (w : World) => run_alloc (P := Try.prog) w info_ptext
  have HAL := Lib.hid hal
  obtain ⟨Z, hZ⟩ : ∃ Z, Z = (pfCells pf0 (.slice none 0 0) (.slice none 0 0)) := ⟨_, rfl⟩
  have halp := fun (w : World) => run_alloc (P := Try.prog) w info_proof
  rw [zProof_cells, show (⟨false, [], List.replicate 32 0, []⟩ : Pf) = pf0 from rfl, ← hZ] at halp
  have hzl : Z.length = 35 := by rw [hZ]; exact pf_length (by simp [pf0, zero32]) _ _
  have HALP := Lib.hid halp
  have HZL := Lib.hid hzl
  clear hv hb hal halp hzl hZ
  go_enter Try.func9, Try.ntmps9
  go_wp2_with fail
  go_loopw [7] (fun i wr => ∃ k : Nat, k ≤ pts.length ∧ i = .int .i64 k ∧ Keeps [] w wr) (fun i _ => pts.length - (intOf i).toNat)
  case atStart => exact ⟨0, Nat.zero_le _, rfl, Keeps.refl _ _⟩
  case round =>
    obtain ⟨k, hk, rfl, hkr⟩ := hrel
    by_cases hlt : k < pts.length
    · obtain ⟨g, o, rfl, hg, cs, hp, hr⟩ : ∃ g o, a = some ⟨g, o, none⟩ ∧ g < w.heap.size ∧ ∃ cs, PtIn w cs pts[k] ∧ w.rangeAt g (o + k * 37) cs := by
        rcases HV.out with ⟨h0, _⟩ | ⟨g, o, cap, hv, _, _, h3, h4⟩
        · subst h0; simp at hlt
        · injection hv with e _ _
          obtain ⟨cs, h5, h6⟩ := h4 k hlt
          exact ⟨g, o, e, h3, cs, h5, h6⟩
      have hxb := HB.out _ (List.getElem_mem hlt)
      obtain ⟨x, hx⟩ : ∃ x, x = pts[k] := ⟨_, rfl⟩
      rw [← hx] at hp hxb
      have hcl := hp.len
      have hc1 := hp.ones
      obtain ⟨vv, sv, rv, hcs, hvv, hsv, ho, hrw⟩ := hp
      obtain ⟨d, hd⟩ : ∃ d, d = x.dec := ⟨_, rfl⟩
      rw [← hd] at hcs
      obtain ⟨hst, hhp, hkv⟩ := pt_var (w := wr) hcl hc1
      have hr2 : wr.rangeAt g (o + k * 37) cs := rangeAt_of_heap hr (hkr.block g hg (by simp))
      have hsz : (Try.prog.info? 44).map (·.size) = some cs.length := by rw [size_ptext, hcl]
      obtain ⟨wb, hwb⟩ : ∃ wb, wb = (wr.alloc (.cells ztCells.toArray 44 (0, 0))).setCells wr.heap.size 0 cs := ⟨_, rfl⟩
      rw [← hwb] at hst hhp hkv
      rw [hcs] at hhp
      have Kb := hkr.trans (G := []) hkv (by simp)
      obtain ⟨ra, rc, rfl, hrc, hrm⟩ := hrw.form
      have hrwb := hrw.keeps Kb (by simp)
      unfold maxLen at hrm
      have hpc := fun wx (hk : Keeps [] wb wx) => pt_cells ho ((hk.block _ (lt_of_heap hhp) (by simp)).trans hhp)
      have HPC := Lib.hid hpc
      have hpin : ∀ wx, Keeps [] wb wx → PfIn wx (.agg (pfCells x.pf vv sv).toArray) x.pf := fun wx hk => PfIn.keeps ⟨vv, sv, rfl, hvv, hsv, ho⟩ (Kb.trans (G := []) hk (by simp))
      have hpr : ∀ wx, Keeps [] wb wx → wx.rangeAt wr.heap.size 1 (pfCells x.pf vv sv) := fun wx hk => by
        have h := rangeAt_all ((hk.block _ (lt_of_heap hhp) (by simp)).trans hhp)
        rw [show (Value.bool d :: (pfCells x.pf vv sv ++ [.slice ra x.raw.length rc])) = [Value.bool d] ++ pfCells x.pf vv sv ++ [.slice ra x.raw.length rc] from rfl] at h
        exact range_part0 h
      have HPIN := Lib.hid hpin
      have RP := Lib.hid (hpr wb (Keeps.refl _ _))
      have HSP := Lib.hid (size_pf ho.1 vv sv)
      have HR2 := Lib.hid hr2
      have HSZ := Lib.hid hsz
      have HST := Lib.hid hst
      have HRW := Lib.hid hrwb
      have b0 : (0 : Int) ≤ (k : Int) := by omega
      have b1 : (k : Int) < (pts.length : Int) := by omega
      obtain ⟨d0, d36⟩ := hpc wb (Keeps.refl _ _)
      clear hpin hpr hvv hsv hx hcl hc1 hcs hd hhp hkv hr hr2 hsz hwb hrw hrwb hst hpc

      cases hdx : d with
      | true =>
        subst hdx
        cases hdd : dec with
        | false =>
          subst hdd
          go_wp2_with (first | (refine wpList_load_mid rfl 44 (.tmp 28) rfl g (o + k * 37) (by rfl) cs _ HR2.out Try.underlying44 rfl HSZ.out ?_; try simp only [Act.put, List.setIfInBounds_toArray, List.set_cons_zero, List.set_cons_succ, List.getElem_toArray, List.getElem_cons_zero, List.getElem_cons_succ]) | (refine wl_alloc rfl 44 rfl ?_; refine ⟨_, _, HAL.out _, ?_⟩; try simp only [Act.put, List.setIfInBounds_toArray, List.set_cons_zero, List.set_cons_succ, List.getElem_toArray, List.getElem_cons_zero, List.getElem_cons_succ]) | (refine wl_store rfl 44 (.tmp 8) (.tmp 29) rfl ?_; refine ⟨_, HST.out, ?_⟩; try simp only [Act.put, List.setIfInBounds_toArray, List.set_cons_zero, List.set_cons_succ, List.getElem_toArray, List.getElem_cons_zero, List.getElem_cons_succ]))
          go_roundw
          case rel => exact ⟨k + 1, by omega, by go_num, Kb⟩
          case measure => simp [intOf]; omega
        | true =>
          subst hdd
          go_wp2_with (first | (refine wpList_load_mid rfl 44 (.tmp 28) rfl g (o + k * 37) (by rfl) cs _ HR2.out Try.underlying44 rfl HSZ.out ?_; try simp only [Act.put, List.setIfInBounds_toArray, List.set_cons_zero, List.set_cons_succ, List.getElem_toArray, List.getElem_cons_zero, List.getElem_cons_succ]) | (refine wl_alloc rfl 44 rfl ?_; refine ⟨_, _, HAL.out _, ?_⟩; try simp only [Act.put, List.setIfInBounds_toArray, List.set_cons_zero, List.set_cons_succ, List.getElem_toArray, List.getElem_cons_zero, List.getElem_cons_succ]) | (refine wl_store rfl 44 (.tmp 8) (.tmp 29) rfl ?_; refine ⟨_, HST.out, ?_⟩; try simp only [Act.put, List.setIfInBounds_toArray, List.set_cons_zero, List.set_cons_succ, List.getElem_toArray, List.getElem_cons_zero, List.getElem_cons_succ]))
          · refine (roomy_any HRW.out (by omega)).mono ?_
            rintro e wc ⟨gr, rfl, hgr, hO, hkc⟩
            obtain ⟨_, d36c⟩ := HPC.out wc hkc
            obtain ⟨n, hn⟩ : ∃ n, n = x.raw.length := ⟨_, rfl⟩
            rw [← hn] at hO d36c hxb ⊢
            obtain ⟨L0, hL0⟩ : ∃ L0, L0 = x.raw ++ behind := ⟨_, rfl⟩
            rw [← hL0] at hO
            have hL0l : L0.length = n + 100 := by rw [hL0, List.length_append, hn]; rfl
            have Kc := Kb.trans (G := []) hkc (by simp)
            have hszc := hkc.size
            have hszb := Kb.size
            have HOC := Lib.hid hO
            have HKC := Lib.hid Kc
            have HL0L := Lib.hid hL0l
            obtain ⟨wo, rfl⟩ : ∃ wo : World, wo = wr := ⟨_, rfl⟩
            clear hO Kc hL0 hL0l hn d0 d36
            go_wp2_with fail
            go_loopw [19] (fun i wr => ∃ (q : Nat) (LL : List UInt8), q ≤ 3 ∧ i = .int .i64 q ∧ LL.length = n + 100 ∧ OwnB wr (.slice (some ⟨gr, 0, none⟩) (n + 100) (n + 100)) LL ∧ Keeps [] w wr) (fun i _ => 3 - (intOf i).toNat)
            case atStart => exact ⟨0, L0, by omega, rfl, HL0L.out, HOC.out, HKC.out⟩
            case round =>
              obtain ⟨q, LL, hq, rfl, hLL, hOL, hkr3⟩ := hrel
              have HLL := Lib.hid hLL
              have HOL := Lib.hid hOL
              have HK3 := Lib.hid hkr3
              clear hLL hOL hkr3
              by_cases hq3 : q < 3
              · have q3 : (q : Int) < 3 := by omega
                by_cases hq0 : q = 0 ∨ n = 0
                · have hD := decoded_any (l := LL) (by rw [HLL.out]; exact ownB_bytes HOL.out) (by rw [HLL.out]; omega) n (by rw [HLL.out]; omega) (by omega)
                  rw [HLL.out] at hD
                  have HDD := Lib.hid hD
                  clear hD
                  by_cases hqz : q = 0
                  · have q0 : ¬ (0 : Int) < (q : Int) := by omega
                    clear hqz hq0
                    go_wp2_with fail
                    refine HDD.out.mono ?_
                    rintro e w9 ⟨rfl, hk9⟩
                    go_wp2_with fail
                    go_roundw
                    case rel => exact ⟨q + 1, LL, by omega, by go_num, HLL.out, ownsRow_keep HOL.out (fun j hj => hk9.block j (World.ownsRow.lt HOL.out j hj).2 (by simp)), HK3.out.trans (G := []) hk9 (by simp)⟩
                    case measure => simp [intOf]; omega
                  · have q0 : (0 : Int) < (q : Int) := by omega
                    have n0 : ¬ (0 : Int) < (n : Int) := by omega
                    clear hqz hq0
                    go_wp2_with fail
                    refine HDD.out.mono ?_
                    rintro e w9 ⟨rfl, hk9⟩
                    go_wp2_with fail
                    go_roundw
                    case rel => exact ⟨q + 1, LL, by omega, by go_num, HLL.out, ownsRow_keep HOL.out (fun j hj => hk9.block j (World.ownsRow.lt HOL.out j hj).2 (by simp)), HK3.out.trans (G := []) hk9 (by simp)⟩
                    case measure => simp [intOf]; omega
                · obtain ⟨hq1, hn1⟩ : 0 < q ∧ 0 < n := by omega
                  have q0 : (0 : Int) < (q : Int) := by omega
                  have n0 : (0 : Int) < (n : Int) := by omega
                  obtain ⟨m1, hm1⟩ : ∃ m1, n = m1 + 1 := ⟨n - 1, by omega⟩
                  obtain ⟨jx, hjx⟩ : ∃ jx, jx = m1 / q := ⟨_, rfl⟩
                  have hjn : jx < n + 100 := by
                    have := Nat.div_le_self m1 q
                    omega
                  obtain ⟨xb, hxb2⟩ : ∃ xb, LL[jx]? = some xb := ⟨LL[jx]'(by rw [HLL.out]; exact hjn), List.getElem?_eq_getElem _⟩
                  obtain ⟨yb, hyb⟩ := xor_one xb.toNat xb.toNat_lt
                  have hcell := HOL.out.cell jx (by rw [HLL.out]; exact hjn)
                  have hcell2 : wr.cell? ⟨gr, jx, none⟩ = some (.int .u8 xb.toNat) := by
                    rw [hcell]
                    have : LL[jx]'(by rw [HLL.out]; exact hjn) = xb := by
                      have := List.getElem?_eq_getElem (l := LL) (i := jx) (by rw [HLL.out]; exact hjn)
                      rw [hxb2] at this
                      injection this with this
                      exact this.symm
                    rw [this]
                    rfl
                  have hfr := HOL.out.free jx
                  have hset := HOL.out.set jx (by rw [HLL.out]; exact hjn) yb
                  have hsub : IntKind.i64.wrap ((n : Int) - 1) = (m1 : Int) := by rw [IntWalk.i64_in _ (by omega), hm1]; omega
                  have hsub2 : (n : Int) - 1 = (m1 : Int) := by omega
                  have hdiv : (m1 : Int).tdiv (q : Int) = (jx : Int) := by rw [hjx]; exact (Int.ofNat_tdiv m1 q).symm
                  have hwd : IntKind.i64.wrap (jx : Int) = (jx : Int) := IntWalk.i64_in _ (by omega)
                  have qne : ¬ q = 0 := by omega
                  have hm1w : IntKind.i64.wrap (m1 : Int) = (m1 : Int) := IntWalk.i64_in _ (by omega)
                  have j0 : (0 : Int) ≤ (jx : Int) := by omega
                  have j1 : (jx : Int) < (n : Int) + 100 := by omega
                  have HJX := Lib.hid hjx
                  have HM1 := Lib.hid hm1
                  have HSET := Lib.hid hset
                  have HYB := Lib.hid hyb
                  clear hjx hm1 hset hcell hxb2
                  go_wp2_with fail
                  refine rl_start (fun w' => w'.cell? ⟨gr, jx, none⟩ = some (.int .u8 xb.toNat) ∧ w'.frozen? ⟨gr, jx, none⟩ = false) 14 (by kernel_rfl) ?_ (fun hHeld => ?_)
                  · exact ⟨hcell2, hfr⟩
                  refine' rl_take (i := 0) (v := _) rfl (by kernel_rfl) (by kernel_rfl) (by kernel_rfl) (by kernel_rfl) (fun _ _ _ h => h) (Or.inl ⟨by rfl, ?_⟩) (by assumption) ?_
                  rotate_left 1
                  · (intro w0 hSw; (try dsimp only at hSw); go_split_ands; go_simp; (try with_reducible rfl))
                  try simp only [Act.put, List.setIfInBounds_toArray, List.set_cons_zero, List.set_cons_succ, List.getElem_toArray, List.getElem_cons_zero, List.getElem_cons_succ]
                  refine' rl_take (i := 1) (v := _) rfl (by kernel_rfl) (by kernel_rfl) (by kernel_rfl) (by kernel_rfl) (fun _ _ _ h => h) (Or.inl ⟨by rfl, ?_⟩) (by assumption) ?_
                  rotate_left 1
                  · (intro w0 hSw; (try dsimp only at hSw); go_split_ands; go_simp; (try with_reducible rfl))
                  try simp only [Act.put, List.setIfInBounds_toArray, List.set_cons_zero, List.set_cons_succ, List.getElem_toArray, List.getElem_cons_zero, List.getElem_cons_succ]
                  refine' rl_take (i := 2) (v := _) rfl (by kernel_rfl) (by kernel_rfl) (by kernel_rfl) (by kernel_rfl) (fun _ _ _ h => h) (Or.inl ⟨by rfl, ?_⟩) (by assumption) ?_
                  rotate_left 1
                  · (intro w0 hSw; (try dsimp only at hSw); go_split_ands; go_simp; (try with_reducible rfl))
                  try simp only [Act.put, List.setIfInBounds_toArray, List.set_cons_zero, List.set_cons_succ, List.getElem_toArray, List.getElem_cons_zero, List.getElem_cons_succ]
                  refine' rl_take (i := 3) (v := _) rfl (by kernel_rfl) (by kernel_rfl) (by kernel_rfl) (by kernel_rfl) (fun _ _ _ h => h) (Or.inl ⟨by rfl, ?_⟩) (by assumption) ?_
                  rotate_left 1
                  · (intro w0 hSw; (try dsimp only at hSw); go_split_ands; go_simp; (try with_reducible rfl))
                  try simp only [Act.put, List.setIfInBounds_toArray, List.set_cons_zero, List.set_cons_succ, List.getElem_toArray, List.getElem_cons_zero, List.getElem_cons_succ]
                  refine' rl_take (i := 4) (v := _) rfl (by kernel_rfl) (by kernel_rfl) (by kernel_rfl) (by kernel_rfl) (fun _ _ _ h => h) (Or.inl ⟨by rfl, ?_⟩) (by assumption) ?_
                  rotate_left 1
                  · (intro w0 hSw; (try dsimp only at hSw); go_split_ands; go_simp; (try with_reducible rfl))
                  try simp only [Act.put, List.setIfInBounds_toArray, List.set_cons_zero, List.set_cons_succ, List.getElem_toArray, List.getElem_cons_zero, List.getElem_cons_succ]
                  refine' rl_take (i := 5) (v := _) rfl (by kernel_rfl) (by kernel_rfl) (by kernel_rfl) (by kernel_rfl) (fun _ _ _ h => h) (Or.inl ⟨by rfl, ?_⟩) (by assumption) ?_
                  rotate_left 1
                  · (intro w0 hSw; (try dsimp only at hSw); go_split_ands; go_simp; (try with_reducible rfl))
                  try simp only [Act.put, List.setIfInBounds_toArray, List.set_cons_zero, List.set_cons_succ, List.getElem_toArray, List.getElem_cons_zero, List.getElem_cons_succ]
                  refine' rl_take (i := 6) (v := _) rfl (by kernel_rfl) (by kernel_rfl) (by kernel_rfl) (by kernel_rfl) (fun _ _ _ h => h) (Or.inl ⟨by rfl, ?_⟩) (by assumption) ?_
                  rotate_left 1
                  · (intro w0 hSw; (try dsimp only at hSw); go_split_ands; go_simp; (try with_reducible rfl))
                  try simp only [Act.put, List.setIfInBounds_toArray, List.set_cons_zero, List.set_cons_succ, List.getElem_toArray, List.getElem_cons_zero, List.getElem_cons_succ]
                  refine' rl_take (i := 7) (v := _) rfl (by kernel_rfl) (by kernel_rfl) (by kernel_rfl) (by kernel_rfl) (fun _ _ _ h => h) (Or.inl ⟨by rfl, ?_⟩) (by assumption) ?_
                  rotate_left 1
                  · (intro w0 hSw; (try dsimp only at hSw); go_split_ands; go_simp; (try with_reducible rfl))
                  try simp only [Act.put, List.setIfInBounds_toArray, List.set_cons_zero, List.set_cons_succ, List.getElem_toArray, List.getElem_cons_zero, List.getElem_cons_succ]
                  refine' rl_take (i := 8) (v := _) rfl (by kernel_rfl) (by kernel_rfl) (by kernel_rfl) (by kernel_rfl) (fun _ _ _ h => h) (Or.inl ⟨by rfl, ?_⟩) (by assumption) ?_
                  rotate_left 1
                  · (intro w0 hSw; (try dsimp only at hSw); go_split_ands; go_simp; (try with_reducible rfl))
                  try simp only [Act.put, List.setIfInBounds_toArray, List.set_cons_zero, List.set_cons_succ, List.getElem_toArray, List.getElem_cons_zero, List.getElem_cons_succ]
                  refine' rl_take (i := 9) (v := _) rfl (by kernel_rfl) (by kernel_rfl) (by kernel_rfl) (by kernel_rfl) (fun _ _ _ h => h) (Or.inl ⟨by rfl, ?_⟩) (by assumption) ?_
                  rotate_left 1
                  · (intro w0 hSw; (try dsimp only at hSw); go_split_ands; go_simp; (try with_reducible rfl))
                  try simp only [Act.put, List.setIfInBounds_toArray, List.set_cons_zero, List.set_cons_succ, List.getElem_toArray, List.getElem_cons_zero, List.getElem_cons_succ]
                  refine' rl_take (i := 10) (v := _) rfl (by kernel_rfl) (by kernel_rfl) (by kernel_rfl) (by kernel_rfl) (fun _ _ _ h => h) (Or.inl ⟨by rfl, ?_⟩) (by assumption) ?_
                  rotate_left 1
                  · (intro w0 hSw; (try dsimp only at hSw); go_split_ands; go_simp; (try with_reducible rfl))
                  try simp only [Act.put, List.setIfInBounds_toArray, List.set_cons_zero, List.set_cons_succ, List.getElem_toArray, List.getElem_cons_zero, List.getElem_cons_succ]
                  refine' rl_take (i := 11) (v := _) rfl (by kernel_rfl) (by kernel_rfl) (by kernel_rfl) (by kernel_rfl) (fun _ _ _ h => h) (Or.inl ⟨by rfl, ?_⟩) (by assumption) ?_
                  rotate_left 1
                  · (intro w0 hSw; (try dsimp only at hSw); go_split_ands; go_simp; (try with_reducible rfl))
                  try simp only [Act.put, List.setIfInBounds_toArray, List.set_cons_zero, List.set_cons_succ, List.getElem_toArray, List.getElem_cons_zero, List.getElem_cons_succ]
                  refine' rl_take (i := 12) (v := _) rfl (by kernel_rfl) (by kernel_rfl) (by kernel_rfl) (by kernel_rfl) (fun _ _ _ h => h) (Or.inl ⟨by rfl, ?_⟩) (by assumption) ?_
                  rotate_left 1
                  · (intro w0 hSw; (try dsimp only at hSw); go_split_ands; go_simp; (try with_reducible rfl))
                  try simp only [Act.put, List.setIfInBounds_toArray, List.set_cons_zero, List.set_cons_succ, List.getElem_toArray, List.getElem_cons_zero, List.getElem_cons_succ]
                  refine' rl_take (i := 13) (v := _) rfl (by kernel_rfl) (by kernel_rfl) (by kernel_rfl) (by kernel_rfl) (fun _ _ _ h => h) (Or.inl ⟨by rfl, ?_⟩) (by assumption) ?_
                  rotate_left 1
                  · (intro w0 hSw; (try dsimp only at hSw); go_split_ands; go_simp; (try with_reducible rfl))
                  try simp only [Act.put, List.setIfInBounds_toArray, List.set_cons_zero, List.set_cons_succ, List.getElem_toArray, List.getElem_cons_zero, List.getElem_cons_succ]
                  refine rl_last (by kernel_rfl) (by kernel_rfl) rfl (fun K hK => ?_)
                  go_simp
                  refine hK.out _ _ ?_
                  clear hK K
                  try simp only [Act.put, List.setIfInBounds_toArray, List.set_cons_zero, List.set_cons_succ, List.getElem_toArray, List.getElem_cons_zero, List.getElem_cons_succ]
                  clear hsub hsub2 hdiv hwd hm1w qne j0 j1 hcell2 hfr hHeld
                  obtain ⟨LN, hLN⟩ : ∃ LN, LN = LL.set jx yb := ⟨_, rfl⟩
                  have hset := HSET.out
                  rw [← hLN] at hset
                  unfold B at hset
                  have hLNl : LN.length = n + 100 := by rw [hLN, List.length_set, HLL.out]
                  have hk2 := (HK3.out.setCell (p := ⟨gr, jx, none⟩) (.inr (show w.heap.size ≤ gr by omega)) (.int .u8 (yb.toNat : Int))).drew
                  obtain ⟨ws, hws⟩ : ∃ ws, ws = (wr.setCell ⟨gr, jx, none⟩ (.int .u8 (yb.toNat : Int))).drew := ⟨_, rfl⟩
                  have hset2 : OwnB ws (.slice (some ⟨gr, 0, none⟩) (n + 100) (n + 100)) LN := by rw [hws]; exact ownsRow_keep hset (fun _ _ => rfl)
                  rw [← hws] at hk2
                  have hD := decoded_any (l := LN) (by rw [hLNl]; exact ownB_bytes hset2) (by rw [hLNl]; omega) n (by rw [hLNl]; omega) (by omega)
                  rw [hLNl] at hD
                  have HDD := Lib.hid hD
                  have HS2 := Lib.hid hset2
                  have HLN := Lib.hid hLNl
                  have HK2 := Lib.hid hk2
                  have HWS := Lib.hid hws
                  clear hD hset hset2 hLN hLNl hk2 hws
                  rw [← HWS.out]
                  go_wp2_with fail
                  refine HDD.out.mono ?_
                  rintro e w9 ⟨rfl, hk9⟩
                  go_wp2_with fail
                  go_roundw
                  case rel => exact ⟨q + 1, LN, by omega, by go_num, HLN.out, ownsRow_keep HS2.out (fun j hj => hk9.block j (World.ownsRow.lt HS2.out j hj).2 (by simp)), HK2.out.trans (G := []) hk9 (by simp)⟩
                  case measure => simp [intOf]; omega
              · have e : q = 3 := by omega
                subst e
                go_wp2_with fail
                go_roundw
                case rel => exact ⟨k + 1, by omega, by go_num, HK3.out⟩
                case measure => simp [intOf]; omega
      | false =>
        subst hdx
        cases hee : enc with
        | false =>
          subst hee
          go_wp2_with (first | (refine wpList_load_mid rfl 44 (.tmp 28) rfl g (o + k * 37) (by rfl) cs _ HR2.out Try.underlying44 rfl HSZ.out ?_; try simp only [Act.put, List.setIfInBounds_toArray, List.set_cons_zero, List.set_cons_succ, List.getElem_toArray, List.getElem_cons_zero, List.getElem_cons_succ]) | (refine wl_alloc rfl 44 rfl ?_; refine ⟨_, _, HAL.out _, ?_⟩; try simp only [Act.put, List.setIfInBounds_toArray, List.set_cons_zero, List.set_cons_succ, List.getElem_toArray, List.getElem_cons_zero, List.getElem_cons_succ]) | (refine wl_store rfl 44 (.tmp 8) (.tmp 29) rfl ?_; refine ⟨_, HST.out, ?_⟩; try simp only [Act.put, List.setIfInBounds_toArray, List.set_cons_zero, List.set_cons_succ, List.getElem_toArray, List.getElem_cons_zero, List.getElem_cons_succ]))
          go_roundw
          case rel => exact ⟨k + 1, by omega, by go_num, Kb⟩
          case measure => simp [intOf]; omega
        | true =>
          subst hee
          go_wp2_with (first | (refine wpList_load_mid rfl 44 (.tmp 28) rfl g (o + k * 37) (by rfl) cs _ HR2.out Try.underlying44 rfl HSZ.out ?_; try simp only [Act.put, List.setIfInBounds_toArray, List.set_cons_zero, List.set_cons_succ, List.getElem_toArray, List.getElem_cons_zero, List.getElem_cons_succ]) | (refine wl_alloc rfl 44 rfl ?_; refine ⟨_, _, HAL.out _, ?_⟩; try simp only [Act.put, List.setIfInBounds_toArray, List.set_cons_zero, List.set_cons_succ, List.getElem_toArray, List.getElem_cons_zero, List.getElem_cons_succ]) | (refine wl_store rfl 44 (.tmp 8) (.tmp 29) rfl ?_; refine ⟨_, HST.out, ?_⟩; try simp only [Act.put, List.setIfInBounds_toArray, List.set_cons_zero, List.set_cons_succ, List.getElem_toArray, List.getElem_cons_zero, List.getElem_cons_succ]) | (refine wpList_load_mid rfl 30 (.tmp 36) rfl wr.heap.size 1 (by rfl) (pfCells x.pf vv sv) _ RP.out Try.underlying30 rfl HSP.out ?_; try simp only [Act.put, List.setIfInBounds_toArray, List.set_cons_zero, List.set_cons_succ, List.getElem_toArray, List.getElem_cons_zero, List.getElem_cons_succ]))
          refine (copyProof_any (HPIN.out wb (Keeps.refl _ _)) (by omega) (by omega)).mono ?_
          rintro e w1 ⟨v1, rfl, hP1, hk1⟩
          have hszb := Kb.size
          obtain ⟨vv1, sv1, rfl, hv1, hs1, ho1⟩ := hP1
          obtain ⟨a1, c1, rfl, hc1, hm1⟩ := hv1.form
          obtain ⟨a2, c2, rfl, hc2, hm2⟩ := hs1.form
          obtain ⟨nx, hnx⟩ : ∃ nx, nx = x.pf.val.length := ⟨_, rfl⟩
          obtain ⟨ns, hns⟩ : ∃ ns, ns = x.pf.sums.length := ⟨_, rfl⟩
          obtain ⟨C1, hC1⟩ : ∃ C1, C1 = pfCells x.pf (.slice a1 x.pf.val.length c1) (.slice a2 x.pf.sums.length c2) := ⟨_, rfl⟩
          obtain ⟨hst1, hhp1, hkv1⟩ := pf_var (w := w1) (pf_length ho1.1 (.slice a1 x.pf.val.length c1) (.slice a2 x.pf.sums.length c2)) pf_ones HZL.out
          rw [← hC1] at hst1 hhp1 hkv1 ⊢
          obtain ⟨w2, hw2⟩ : ∃ w2, w2 = (w1.alloc (.cells Z.toArray 30 (0, 0))).setCells w1.heap.size 0 C1 := ⟨_, rfl⟩
          rw [← hw2] at hst1 hhp1 hkv1
          obtain ⟨_, f1, f34⟩ := pf_cells (hC1 ▸ hhp1) ho1.1
          have HC1 := Lib.hid hC1
          rw [← hnx] at f1 hc1
          rw [← hns] at f34 hc2
          have hv2 := hv1.keeps hkv1 (by simp)
          have hb1 : Keeps [] w w1 := Kb.trans (G := []) hk1 (by simp)
          have d0 := (HPC.out w1 hk1).1
          have HST1 := Lib.hid hst1
          have HHP1 := Lib.hid hhp1
          have hroom := roomy_any hv2 (by omega)
          rw [← hnx] at hroom
          have HROOM := Lib.hid hroom
          have HS1 := Lib.hid hs1
          have HO1 := Lib.hid ho1.1
          have HDG := Lib.hid ho1.2
          have HB1 := Lib.hid hb1
          have HK1 := Lib.hid hk1
          have HKV1 := Lib.hid hkv1
          have HNXL := Lib.hid hnx
          have HNS := Lib.hid hns
          have hxb0 : nx ≤ 1048576 := by omega
          have hxb1 : ns ≤ 1048576 := by omega
          clear hst1 hhp1 hv2 hroom hs1 hb1 hk1 hkv1 hnx hns hw2 hC1 hv1 ho1 hm1 hm2 d36
          go_wp2_with (first | (refine wl_alloc rfl 30 rfl ?_; refine ⟨_, _, HALP.out _, ?_⟩; try simp only [Act.put, List.setIfInBounds_toArray, List.set_cons_zero, List.set_cons_succ, List.getElem_toArray, List.getElem_cons_zero, List.getElem_cons_succ]) | (refine wl_store rfl 30 (.tmp 9) (.tmp 38) rfl ?_; refine ⟨_, HST1.out, ?_⟩; try simp only [Act.put, List.setIfInBounds_toArray, List.set_cons_zero, List.set_cons_succ, List.getElem_toArray, List.getElem_cons_zero, List.getElem_cons_succ]))
          refine HROOM.out.mono ?_
          rintro e w3 ⟨gv, rfl, hgv, hO, hk3⟩
          have hhp3 := (hk3.block _ (lt_of_heap HHP1.out) (by simp)).trans HHP1.out
          rw [HC1.out] at hhp3
          have k13 := HKV1.out.trans (G := []) hk3 (by simp)
          obtain ⟨_, f1, f34⟩ := pf_cells hhp3 HO1.out
          have fr1 := frozen_of_row w3 w1.heap.size 1 _ _ hhp3
          rw [← HNXL.out] at f1
          rw [← HNS.out] at f34
          obtain ⟨q, hq⟩ : ∃ q, q = w1.heap.size := ⟨_, rfl⟩
          have hq2 : q < w2.heap.size := by rw [hq]; exact lt_of_heap HHP1.out
          rw [← hq] at hhp3 f1 f34 fr1 ⊢
          obtain ⟨M, hM⟩ : ∃ M, M = ns + 30 := ⟨_, rfl⟩
          have hM0 : 0 < M := by omega
          have hM1 : M ≤ 1048676 := by omega
          have hMI : (ns : Int) + 30 = (M : Int) := by omega
          have hMW : IntKind.i64.wrap (M : Int) = (M : Int) := IntWalk.i64_in _ (by omega)
          have hlv : (x.pf.val ++ behind).length = nx + 100 := by rw [List.length_append, HNXL.out]; rfl
          obtain ⟨C2, hC2⟩ : ∃ C2, C2 = pfCells x.pf (.slice (some ⟨gv, 0, none⟩) (nx + 100) (nx + 100)) (.slice a2 x.pf.sums.length c2) := ⟨_, rfl⟩
          have he := enc_start (M := M) HO1.out hlv hO hhp3 k13 (by omega) (by omega) (by omega) (.slice (some ⟨gv, 0, none⟩) (nx + 100) (nx + 100))
          have hmk := make_digests w3 (q := q) (.slice (some ⟨gv, 0, none⟩) (nx + 100) (nx + 100)) hM1
          obtain ⟨gd, hgd⟩ : ∃ gd, gd = w3.heap.size := ⟨_, rfl⟩
          rw [← hgd] at he hmk
          obtain ⟨w5, hw5⟩ : ∃ w5, w5 = (w3.setCell ⟨q, 1, none⟩ (.slice (some ⟨gv, 0, none⟩) (nx + 100) (nx + 100))).alloc (.cells (sumCells (List.replicate M (List.replicate 32 0))).toArray 45 (0, 0)) := ⟨_, rfl⟩
          rw [← hw5, ← hC2] at he
          rw [← hw5] at hmk
          have HC2 := Lib.hid hC2
          have HE := Lib.hid he
          have HMK := Lib.hid hmk
          have HQQ := Lib.hid hq
          have HMM := Lib.hid hM
          clear hO hhp3 k13 hlv he hmk hw5 hgd hC2 hq hM
          go_wp2_with (refine wl_makeSlice rfl 28 (.tmp 50) (.tmp 50) rfl ?_; refine ⟨_, _, HMK.out, ?_⟩; try simp only [Act.put, List.setIfInBounds_toArray, List.set_cons_zero, List.set_cons_succ, List.getElem_toArray, List.getElem_cons_zero, List.getElem_cons_succ])
          clear f1 f34 fr1 d0 HMK HST1
          obtain ⟨wo, rfl⟩ : ∃ wo : World, wo = wr := ⟨_, rfl⟩
          go_loopw [13] (fun i wr => ∃ kx : Nat, kx ≤ M ∧ i = .int .i64 kx ∧ EncIn w1 gv gd q nx M C2 wr) (fun i _ => M - (intOf i).toNat)
          case atStart => exact ⟨0, Nat.zero_le _, rfl, HE.out⟩
          case round =>
            obtain ⟨kx, hkx, rfl, hex⟩ := hrel
            have HEX := Lib.hid hex
            obtain ⟨_, f1, f34⟩ := pf_cells (HC2.out ▸ hex.pf) HO1.out
            rw [← HNS.out] at f34
            clear hex f1
            by_cases hkM : kx < M
            · have b0 : (0 : Int) ≤ (kx : Int) := by omega
              have b1 : (kx : Int) < (M : Int) := by omega
              by_cases hks : kx < ns
              · obtain ⟨g2, o2, rfl, hg2, hr2⟩ := HS1.out.at (by rw [← HNS.out]; omega)
                have hks2 : kx < x.pf.sums.length := by rw [← HNS.out]; exact hks
                have q2 := SumsAt.row hr2 HDG.out hks2 (HEX.out.keep.block g2 hg2 (by simp))
                have hl := HDG.out _ (List.getElem_mem hks2)
                have hsd := size_digest_of hl
                obtain ⟨hst, hen⟩ := HEX.out.store kx hkM hl
                obtain ⟨xd, hxd⟩ : ∃ xd, xd = x.pf.sums[kx] := ⟨_, rfl⟩
                rw [← hxd] at q2 hl hsd hst hen
                have b2 : (kx : Int) < (ns : Int) := by omega
                have Q2 := Lib.hid q2
                have HSD := Lib.hid hsd
                have HSTX := Lib.hid hst
                have HEN := Lib.hid hen
                clear q2 hr2 hl hsd hst hen hxd
                go_wp2_with (first | (refine wpList_load_mid rfl 45 (.tmp 66) rfl g2 (o2 + kx * 32) (by rfl) (xd.map B) _ Q2.out Try.underlying45 rfl HSD.out ?_; try simp only [Act.put, List.setIfInBounds_toArray, List.set_cons_zero, List.set_cons_succ, List.getElem_toArray, List.getElem_cons_zero, List.getElem_cons_succ]) | (refine wl_store rfl 45 (.tmp 68) (.tmp 67) rfl ?_; refine ⟨_, HSTX.out, ?_⟩; try simp only [Act.put, List.setIfInBounds_toArray, List.set_cons_zero, List.set_cons_succ, List.getElem_toArray, List.getElem_cons_zero, List.getElem_cons_succ]))
                go_roundw
                case rel => exact ⟨kx + 1, by omega, by go_num, HEN.out⟩
                case measure => simp [intOf]; omega
              · have b2 : ¬ (kx : Int) < (ns : Int) := by omega
                obtain ⟨xq, hxq⟩ := u8_wrap kx
                have hl : (xq :: List.replicate 31 (0 : UInt8)).length = 32 := by simp
                obtain ⟨hst, hen⟩ := HEX.out.store kx hkM hl
                have HSTX := Lib.hid hst
                have HEN := Lib.hid hen
                have HBD := Lib.hid (run_build_digest wr xq)
                clear hst hen hl f34
                go_wp2_with (first | (refine wl_build rfl 45 #[(0, .tmp 72)] #[(0, .int .u8 xq.toNat)] rfl (by simp [Act.eval]) ?_; refine ⟨_, _, HBD.out, ?_⟩; try simp only [Act.put, List.setIfInBounds_toArray, List.set_cons_zero, List.set_cons_succ, List.getElem_toArray, List.getElem_cons_zero, List.getElem_cons_succ]) | (refine wl_store rfl 45 (.tmp 74) (.tmp 73) rfl ?_; refine ⟨_, HSTX.out, ?_⟩; try simp only [Act.put, List.setIfInBounds_toArray, List.set_cons_zero, List.set_cons_succ, List.getElem_toArray, List.getElem_cons_zero, List.getElem_cons_succ]))
                go_roundw
                case rel => exact ⟨kx + 1, by omega, by go_num, HEN.out⟩
                case measure => simp [intOf]; omega
            · have b1 : ¬ (kx : Int) < (M : Int) := by omega
              have fr34 := frozen_of_row wr q 34 _ _ HEX.out.pf
              have hex := HEX.out
              rw [HC2.out] at hex
              have he3 := hex.put34 HO1.out (.slice (some ⟨gd, 0, none⟩) M M)
              obtain ⟨C3, hC3⟩ : ∃ C3, C3 = pfCells x.pf (.slice (some ⟨gv, 0, none⟩) (nx + 100) (nx + 100)) (.slice (some ⟨gd, 0, none⟩) M M) := ⟨_, rfl⟩
              have hs3 : (Try.prog.info? 30).map (·.size) = some C3.length := by rw [hC3]; exact size_pf HO1.out _ _
              rw [← hC3] at he3
              have HE3 := Lib.hid he3
              have HC3 := Lib.hid hC3
              have HS3 := Lib.hid hs3
              clear he3 hC3 hs3 hex
              go_wp2_with fail
              clear f34 fr34
              obtain ⟨w19, rfl⟩ : ∃ w19 : World, w19 = wr := ⟨_, rfl⟩
              go_loopw [14] (fun i wr => ∃ kk : Nat, kk ≤ 3 ∧ i = .int .i64 kk ∧ EncIn w1 gv gd q nx M C3 wr) (fun i _ => 3 - (intOf i).toNat)
              case atStart => exact ⟨0, Nat.zero_le _, rfl, HE3.out⟩
              case round =>
                obtain ⟨kk, hkk, rfl, he4⟩ := hrel
                have HE4 := Lib.hid he4
                clear he4
                by_cases hk3 : kk < 3
                · have e0 : kk = 0 ∨ kk = 1 ∨ kk = 2 := by omega
                  rcases e0 with e0 | e0 | e0
                  · have k1 : ¬ (kk = 1) := by omega
                    have k2 : ¬ (kk = 2) := by omega
                    have k1i : ¬ ((kk : Int) = 1) := by omega
                    have k2i : ¬ ((kk : Int) = 2) := by omega
                    have k3 : (kk : Int) < 3 := by omega
                    clear e0
                    go_wp2_with fail
                    obtain ⟨w21, rfl⟩ : ∃ wo : World, wo = wr := ⟨_, rfl⟩
                    go_loopw [15] (fun i wr => i = .int .i64 0 ∧ EncIn w1 gv gd q nx M C3 wr) (fun i _ => 0)
                    case atStart => exact ⟨rfl, HE4.out⟩
                    case round =>
                      obtain ⟨rfl, he5⟩ := hrel
                      have HE4 := Lib.hid he5
                      clear he5
                      go_wp2_with fail
                      obtain ⟨w22, rfl⟩ : ∃ wo : World, wo = wr := ⟨_, rfl⟩
                      go_loopw [16] (fun i wr => i = .int .i64 0 ∧ EncIn w1 gv gd q nx M C3 wr) (fun i _ => 0)
                      case atStart => exact ⟨rfl, HE4.out⟩
                      case round =>
                        obtain ⟨rfl, he5⟩ := hrel
                        have HE4 := Lib.hid he5
                        clear he5
                        have HE5 := HE4
                        have he5 := HE5.out
                        rw [HC3.out] at he5
                        obtain ⟨LLt, Lt, hLLt, hLt, hPI⟩ := he5.pfIn HO1.out hxb0 hM0 hM1
                        rw [← HC3.out] at hPI
                        have hC := encoded_any hPI (by show LLt.length ≤ 2097152; omega) (by show Lt.length ≤ 2097152; omega) nx ns (by show nx ≤ LLt.length; omega) (by show ns ≤ Lt.length; have := HMM.out; omega)
                        have HCX := Lib.hid hC
                        have RT := Lib.hid (rangeAt_all HE5.out.pf)
                        clear hC hPI hLLt hLt he5
                        go_wp2_with (refine wpList_load_mid rfl 30 (.tmp 9) rfl q 0 (by rfl) C3 _ RT.out Try.underlying30 rfl HS3.out ?_; try simp only [Act.put, List.setIfInBounds_toArray, List.set_cons_zero, List.set_cons_succ, List.getElem_toArray, List.getElem_cons_zero, List.getElem_cons_succ])
                        refine HCX.out.mono ?_
                        rintro e w9 ⟨rfl, hk9⟩
                        go_wp2_with fail
                        go_roundw
                        case rel => exact ⟨kk + 1, by omega, by go_num, HE5.out.keeps hk9⟩
                        case measure => simp [intOf]; omega
                  · subst e0
                    simp only [show ((1 : Nat) : Int) = 1 from rfl]
                    go_wp2_with fail
                    obtain ⟨w21, rfl⟩ : ∃ wo : World, wo = wr := ⟨_, rfl⟩
                    go_loopw [15] (fun i wr => ∃ jx : Nat, jx ≤ nx ∧ i = .int .i64 jx ∧ EncIn w1 gv gd q nx M C3 wr) (fun i _ => nx - (intOf i).toNat)
                    case atStart => exact ⟨0, Nat.zero_le _, rfl, HE4.out⟩
                    case round =>
                      obtain ⟨jx, hjx, rfl, he4⟩ := hrel
                      have HE4 := Lib.hid he4
                      clear he4
                      by_cases hjl : jx < nx
                      · obtain ⟨xb, ⟨hcell2, hfr⟩, hnx⟩ := HE4.out.byte jx (by omega)
                        obtain ⟨yb, hyb⟩ := xor_90 xb.toNat xb.toNat_lt
                        obtain ⟨_, q1, q34⟩ := pf_cells (HC3.out ▸ HE4.out.pf) HO1.out
                        have HNX := Lib.hid hnx
                        have j0 : (0 : Int) ≤ (jx : Int) := by omega
                        have j1 : (jx : Int) < (nx : Int) + 100 := by omega
                        have j2 : (jx : Int) < (nx : Int) := by omega
                        clear hnx q34
                        go_wp2_with fail
                        refine rl_start (fun w' => (w'.cell? ⟨q, 1, none⟩ = some (.slice (some ⟨gv, 0, none⟩) (nx + 100) (nx + 100)) ∧ w'.cell? ⟨gv, jx, none⟩ = some (.int .u8 xb.toNat)) ∧ w'.frozen? ⟨gv, jx, none⟩ = false) 10 (by kernel_rfl) ?_ (fun hHeld => ?_)
                        · exact ⟨⟨q1, hcell2⟩, hfr⟩
                        refine' rl_take (i := 0) (v := _) rfl (by kernel_rfl) (by kernel_rfl) (by kernel_rfl) (by kernel_rfl) (fun _ _ _ h => h) (Or.inl ⟨by rfl, ?_⟩) (by assumption) ?_
                        rotate_left 1
                        · (intro w0 hSw; (try dsimp only at hSw); go_split_ands; go_simp; (try with_reducible rfl))
                        try simp only [Act.put, List.setIfInBounds_toArray, List.set_cons_zero, List.set_cons_succ, List.getElem_toArray, List.getElem_cons_zero, List.getElem_cons_succ]
                        refine' rl_take (i := 1) (v := _) rfl (by kernel_rfl) (by kernel_rfl) (by kernel_rfl) (by kernel_rfl) (fun _ _ _ h => h) (Or.inl ⟨by rfl, ?_⟩) (by assumption) ?_
                        rotate_left 1
                        · (intro w0 hSw; (try dsimp only at hSw); go_split_ands; go_simp; (try with_reducible rfl))
                        try simp only [Act.put, List.setIfInBounds_toArray, List.set_cons_zero, List.set_cons_succ, List.getElem_toArray, List.getElem_cons_zero, List.getElem_cons_succ]
                        refine' rl_take (i := 2) (v := _) rfl (by kernel_rfl) (by kernel_rfl) (by kernel_rfl) (by kernel_rfl) (fun _ _ _ h => h) (Or.inl ⟨by rfl, ?_⟩) (by assumption) ?_
                        rotate_left 1
                        · (intro w0 hSw; (try dsimp only at hSw); go_split_ands; go_simp; (try with_reducible rfl))
                        try simp only [Act.put, List.setIfInBounds_toArray, List.set_cons_zero, List.set_cons_succ, List.getElem_toArray, List.getElem_cons_zero, List.getElem_cons_succ]
                        refine' rl_take (i := 3) (v := _) rfl (by kernel_rfl) (by kernel_rfl) (by kernel_rfl) (by kernel_rfl) (fun _ _ _ h => h) (Or.inl ⟨by rfl, ?_⟩) (by assumption) ?_
                        rotate_left 1
                        · (intro w0 hSw; (try dsimp only at hSw); go_split_ands; go_simp; (try with_reducible rfl))
                        try simp only [Act.put, List.setIfInBounds_toArray, List.set_cons_zero, List.set_cons_succ, List.getElem_toArray, List.getElem_cons_zero, List.getElem_cons_succ]
                        refine' rl_take (i := 4) (v := _) rfl (by kernel_rfl) (by kernel_rfl) (by kernel_rfl) (by kernel_rfl) (fun _ _ _ h => h) (Or.inl ⟨by rfl, ?_⟩) (by assumption) ?_
                        rotate_left 1
                        · (intro w0 hSw; (try dsimp only at hSw); go_split_ands; go_simp; (try with_reducible rfl))
                        try simp only [Act.put, List.setIfInBounds_toArray, List.set_cons_zero, List.set_cons_succ, List.getElem_toArray, List.getElem_cons_zero, List.getElem_cons_succ]
                        refine' rl_take (i := 5) (v := _) rfl (by kernel_rfl) (by kernel_rfl) (by kernel_rfl) (by kernel_rfl) (fun _ _ _ h => h) (Or.inl ⟨by rfl, ?_⟩) (by assumption) ?_
                        rotate_left 1
                        · (intro w0 hSw; (try dsimp only at hSw); go_split_ands; go_simp; (try with_reducible rfl))
                        try simp only [Act.put, List.setIfInBounds_toArray, List.set_cons_zero, List.set_cons_succ, List.getElem_toArray, List.getElem_cons_zero, List.getElem_cons_succ]
                        refine' rl_take (i := 6) (v := _) rfl (by kernel_rfl) (by kernel_rfl) (by kernel_rfl) (by kernel_rfl) (fun _ _ _ h => h) (Or.inl ⟨by rfl, ?_⟩) (by assumption) ?_
                        rotate_left 1
                        · (intro w0 hSw; (try dsimp only at hSw); go_split_ands; go_simp; (try with_reducible rfl))
                        try simp only [Act.put, List.setIfInBounds_toArray, List.set_cons_zero, List.set_cons_succ, List.getElem_toArray, List.getElem_cons_zero, List.getElem_cons_succ]
                        refine' rl_take (i := 7) (v := _) rfl (by kernel_rfl) (by kernel_rfl) (by kernel_rfl) (by kernel_rfl) (fun _ _ _ h => h) (Or.inl ⟨by rfl, ?_⟩) (by assumption) ?_
                        rotate_left 1
                        · (intro w0 hSw; (try dsimp only at hSw); go_split_ands; go_simp; (try with_reducible rfl))
                        try simp only [Act.put, List.setIfInBounds_toArray, List.set_cons_zero, List.set_cons_succ, List.getElem_toArray, List.getElem_cons_zero, List.getElem_cons_succ]
                        refine' rl_take (i := 8) (v := _) rfl (by kernel_rfl) (by kernel_rfl) (by kernel_rfl) (by kernel_rfl) (fun _ _ _ h => h) (Or.inl ⟨by rfl, ?_⟩) (by assumption) ?_
                        rotate_left 1
                        · (intro w0 hSw; (try dsimp only at hSw); go_split_ands; go_simp; (try with_reducible rfl))
                        try simp only [Act.put, List.setIfInBounds_toArray, List.set_cons_zero, List.set_cons_succ, List.getElem_toArray, List.getElem_cons_zero, List.getElem_cons_succ]
                        refine' rl_take (i := 9) (v := _) rfl (by kernel_rfl) (by kernel_rfl) (by kernel_rfl) (by kernel_rfl) (fun _ _ _ h => h) (Or.inl ⟨by rfl, ?_⟩) (by assumption) ?_
                        rotate_left 1
                        · (intro w0 hSw; (try dsimp only at hSw); go_split_ands; go_simp; (try with_reducible rfl))
                        try simp only [Act.put, List.setIfInBounds_toArray, List.set_cons_zero, List.set_cons_succ, List.getElem_toArray, List.getElem_cons_zero, List.getElem_cons_succ]
                        refine rl_last (by kernel_rfl) (by kernel_rfl) rfl (fun K hK => ?_)
                        go_simp
                        refine hK.out _ _ ?_
                        clear hK K
                        try simp only [Act.put, List.setIfInBounds_toArray, List.set_cons_zero, List.set_cons_succ, List.getElem_toArray, List.getElem_cons_zero, List.getElem_cons_succ]
                        clear hHeld hcell2 hfr q1
                        have hnx := HNX.out yb
                        clear HNX
                        obtain ⟨ws, hws⟩ : ∃ ws, ws = (wr.setCell ⟨gv, jx, none⟩ (.int .u8 (yb.toNat : Int))).drew := ⟨_, rfl⟩
                        rw [← hws] at hnx ⊢
                        have HNX := Lib.hid hnx
                        clear hnx hws
                        go_wp2_with fail
                        go_roundw
                        case rel => exact ⟨jx + 1, by omega, by go_num, HNX.out⟩
                        case measure => simp [intOf]; omega
                      · have j2 : ¬ (jx : Int) < (nx : Int) := by omega
                        go_wp2_with fail
                        obtain ⟨w22, rfl⟩ : ∃ wo : World, wo = wr := ⟨_, rfl⟩
                        go_loopw [16] (fun i wr => i = .int .i64 0 ∧ EncIn w1 gv gd q nx M C3 wr) (fun i _ => 0)
                        case atStart => exact ⟨rfl, HE4.out⟩
                        case round =>
                          obtain ⟨rfl, he5⟩ := hrel
                          have HE4 := Lib.hid he5
                          clear he5
                          have HE5 := HE4
                          have he5 := HE5.out
                          rw [HC3.out] at he5
                          obtain ⟨LLt, Lt, hLLt, hLt, hPI⟩ := he5.pfIn HO1.out hxb0 hM0 hM1
                          rw [← HC3.out] at hPI
                          have hC := encoded_any hPI (by show LLt.length ≤ 2097152; omega) (by show Lt.length ≤ 2097152; omega) nx ns (by show nx ≤ LLt.length; omega) (by show ns ≤ Lt.length; have := HMM.out; omega)
                          have HCX := Lib.hid hC
                          have RT := Lib.hid (rangeAt_all HE5.out.pf)
                          clear hC hPI hLLt hLt he5
                          go_wp2_with (refine wpList_load_mid rfl 30 (.tmp 9) rfl q 0 (by rfl) C3 _ RT.out Try.underlying30 rfl HS3.out ?_; try simp only [Act.put, List.setIfInBounds_toArray, List.set_cons_zero, List.set_cons_succ, List.getElem_toArray, List.getElem_cons_zero, List.getElem_cons_succ])
                          refine HCX.out.mono ?_
                          rintro e w9 ⟨rfl, hk9⟩
                          go_wp2_with fail
                          go_roundw
                          case rel => exact ⟨2, by omega, by go_num, HE5.out.keeps hk9⟩
                          case measure => simp [intOf]
                  · subst e0
                    simp only [show ((2 : Nat) : Int) = 2 from rfl]
                    go_wp2_with fail
                    obtain ⟨w21, rfl⟩ : ∃ wo : World, wo = wr := ⟨_, rfl⟩
                    go_loopw [15] (fun i wr => i = .int .i64 0 ∧ EncIn w1 gv gd q nx M C3 wr) (fun i _ => 0)
                    case atStart => exact ⟨rfl, HE4.out⟩
                    case round =>
                      obtain ⟨rfl, he5⟩ := hrel
                      have HE4 := Lib.hid he5
                      clear he5
                      go_wp2_with fail
                      obtain ⟨w22, rfl⟩ : ∃ wo : World, wo = wr := ⟨_, rfl⟩
                      go_loopw [16] (fun i wr => ∃ jx : Nat, jx ≤ ns ∧ i = .int .i64 jx ∧ EncIn w1 gv gd q nx M C3 wr) (fun i _ => ns - (intOf i).toNat)
                      case atStart => exact ⟨0, Nat.zero_le _, rfl, HE4.out⟩
                      case round =>
                        obtain ⟨jx, hjx, rfl, he4⟩ := hrel
                        have HE4 := Lib.hid he4
                        clear he4
                        by_cases hjl : jx < ns
                        · obtain ⟨xb, ⟨hcell2, hfr⟩, hnx⟩ := HE4.out.sum jx (by have := HMM.out; omega)
                          obtain ⟨yb, hyb⟩ := xor_one xb.toNat xb.toNat_lt
                          obtain ⟨_, q1, q34⟩ := pf_cells (HC3.out ▸ HE4.out.pf) HO1.out
                          have HNX := Lib.hid hnx
                          have j0 : (0 : Int) ≤ (jx : Int) := by omega
                          have j1 : (jx : Int) < (M : Int) := by have := HMM.out; omega
                          have j2 : (jx : Int) < (ns : Int) := by omega
                          clear hnx q1
                          go_wp2_with fail
                          refine rl_start (fun w' => (w'.cell? ⟨q, 34, none⟩ = some (.slice (some ⟨gd, 0, none⟩) M M) ∧ w'.cell? ⟨gd, jx * 32 + 31, none⟩ = some (.int .u8 xb.toNat)) ∧ w'.frozen? ⟨gd, jx * 32 + 31, none⟩ = false) 12 (by kernel_rfl) ?_ (fun hHeld => ?_)
                          · exact ⟨⟨q34, hcell2⟩, hfr⟩
                          refine' rl_take (i := 0) (v := _) rfl (by kernel_rfl) (by kernel_rfl) (by kernel_rfl) (by kernel_rfl) (fun _ _ _ h => h) (Or.inl ⟨by rfl, ?_⟩) (by assumption) ?_
                          rotate_left 1
                          · (intro w0 hSw; (try dsimp only at hSw); go_split_ands; go_simp; (try with_reducible rfl))
                          try simp only [Act.put, List.setIfInBounds_toArray, List.set_cons_zero, List.set_cons_succ, List.getElem_toArray, List.getElem_cons_zero, List.getElem_cons_succ]
                          refine' rl_take (i := 1) (v := _) rfl (by kernel_rfl) (by kernel_rfl) (by kernel_rfl) (by kernel_rfl) (fun _ _ _ h => h) (Or.inl ⟨by rfl, ?_⟩) (by assumption) ?_
                          rotate_left 1
                          · (intro w0 hSw; (try dsimp only at hSw); go_split_ands; go_simp; (try with_reducible rfl))
                          try simp only [Act.put, List.setIfInBounds_toArray, List.set_cons_zero, List.set_cons_succ, List.getElem_toArray, List.getElem_cons_zero, List.getElem_cons_succ]
                          refine' rl_take (i := 2) (v := _) rfl (by kernel_rfl) (by kernel_rfl) (by kernel_rfl) (by kernel_rfl) (fun _ _ _ h => h) (Or.inl ⟨by rfl, ?_⟩) (by assumption) ?_
                          rotate_left 1
                          · (intro w0 hSw; (try dsimp only at hSw); go_split_ands; go_simp; (try with_reducible rfl))
                          try simp only [Act.put, List.setIfInBounds_toArray, List.set_cons_zero, List.set_cons_succ, List.getElem_toArray, List.getElem_cons_zero, List.getElem_cons_succ]
                          refine' rl_take (i := 3) (v := _) rfl (by kernel_rfl) (by kernel_rfl) (by kernel_rfl) (by kernel_rfl) (fun _ _ _ h => h) (Or.inl ⟨by rfl, ?_⟩) (by assumption) ?_
                          rotate_left 1
                          · (intro w0 hSw; (try dsimp only at hSw); go_split_ands; go_simp; (try with_reducible rfl))
                          try simp only [Act.put, List.setIfInBounds_toArray, List.set_cons_zero, List.set_cons_succ, List.getElem_toArray, List.getElem_cons_zero, List.getElem_cons_succ]
                          refine' rl_take (i := 4) (v := _) rfl (by kernel_rfl) (by kernel_rfl) (by kernel_rfl) (by kernel_rfl) (fun _ _ _ h => h) (Or.inl ⟨by rfl, ?_⟩) (by assumption) ?_
                          rotate_left 1
                          · (intro w0 hSw; (try dsimp only at hSw); go_split_ands; go_simp; (try with_reducible rfl))
                          try simp only [Act.put, List.setIfInBounds_toArray, List.set_cons_zero, List.set_cons_succ, List.getElem_toArray, List.getElem_cons_zero, List.getElem_cons_succ]
                          refine' rl_take (i := 5) (v := _) rfl (by kernel_rfl) (by kernel_rfl) (by kernel_rfl) (by kernel_rfl) (fun _ _ _ h => h) (Or.inl ⟨by rfl, ?_⟩) (by assumption) ?_
                          rotate_left 1
                          · (intro w0 hSw; (try dsimp only at hSw); go_split_ands; go_simp; (try with_reducible rfl))
                          try simp only [Act.put, List.setIfInBounds_toArray, List.set_cons_zero, List.set_cons_succ, List.getElem_toArray, List.getElem_cons_zero, List.getElem_cons_succ]
                          refine' rl_take (i := 6) (v := _) rfl (by kernel_rfl) (by kernel_rfl) (by kernel_rfl) (by kernel_rfl) (fun _ _ _ h => h) (Or.inl ⟨by rfl, ?_⟩) (by assumption) ?_
                          rotate_left 1
                          · (intro w0 hSw; (try dsimp only at hSw); go_split_ands; go_simp; (try with_reducible rfl))
                          try simp only [Act.put, List.setIfInBounds_toArray, List.set_cons_zero, List.set_cons_succ, List.getElem_toArray, List.getElem_cons_zero, List.getElem_cons_succ]
                          refine' rl_take (i := 7) (v := _) rfl (by kernel_rfl) (by kernel_rfl) (by kernel_rfl) (by kernel_rfl) (fun _ _ _ h => h) (Or.inl ⟨by rfl, ?_⟩) (by assumption) ?_
                          rotate_left 1
                          · (intro w0 hSw; (try dsimp only at hSw); go_split_ands; go_simp; (try with_reducible rfl))
                          try simp only [Act.put, List.setIfInBounds_toArray, List.set_cons_zero, List.set_cons_succ, List.getElem_toArray, List.getElem_cons_zero, List.getElem_cons_succ]
                          refine' rl_take (i := 8) (v := _) rfl (by kernel_rfl) (by kernel_rfl) (by kernel_rfl) (by kernel_rfl) (fun _ _ _ h => h) (Or.inl ⟨by rfl, ?_⟩) (by assumption) ?_
                          rotate_left 1
                          · (intro w0 hSw; (try dsimp only at hSw); go_split_ands; go_simp; (try with_reducible rfl))
                          try simp only [Act.put, List.setIfInBounds_toArray, List.set_cons_zero, List.set_cons_succ, List.getElem_toArray, List.getElem_cons_zero, List.getElem_cons_succ]
                          refine' rl_take (i := 9) (v := _) rfl (by kernel_rfl) (by kernel_rfl) (by kernel_rfl) (by kernel_rfl) (fun _ _ _ h => h) (Or.inl ⟨by rfl, ?_⟩) (by assumption) ?_
                          rotate_left 1
                          · (intro w0 hSw; (try dsimp only at hSw); go_split_ands; go_simp; (try with_reducible rfl))
                          try simp only [Act.put, List.setIfInBounds_toArray, List.set_cons_zero, List.set_cons_succ, List.getElem_toArray, List.getElem_cons_zero, List.getElem_cons_succ]
                          refine rl_act (i := 10) (by kernel_rfl) rfl (fun K hK => ?_)
                          go_simp
                          refine hK.out _ _ ?_ (fun hHeld => ?_)
                          · exact ⟨⟨q34, hcell2⟩, hfr⟩
                          clear hK K
                          try simp only [Act.put, List.setIfInBounds_toArray, List.set_cons_zero, List.set_cons_succ, List.getElem_toArray, List.getElem_cons_zero, List.getElem_cons_succ]
                          refine' rl_take (i := 11) (v := _) rfl (by kernel_rfl) (by kernel_rfl) (by kernel_rfl) (by kernel_rfl) (fun _ _ _ h => h) (Or.inl ⟨by rfl, ?_⟩) (by assumption) ?_
                          rotate_left 1
                          · (intro w0 hSw; (try dsimp only at hSw); go_split_ands; go_simp; (try with_reducible rfl))
                          try simp only [Act.put, List.setIfInBounds_toArray, List.set_cons_zero, List.set_cons_succ, List.getElem_toArray, List.getElem_cons_zero, List.getElem_cons_succ]
                          refine rl_last (by kernel_rfl) (by kernel_rfl) rfl (fun K hK => ?_)
                          go_simp
                          refine hK.out _ _ ?_
                          clear hK K
                          try simp only [Act.put, List.setIfInBounds_toArray, List.set_cons_zero, List.set_cons_succ, List.getElem_toArray, List.getElem_cons_zero, List.getElem_cons_succ]
                          clear hHeld hcell2 hfr q34
                          have hnx := HNX.out yb
                          clear HNX
                          obtain ⟨ws, hws⟩ : ∃ ws, ws = (wr.setCell ⟨gd, jx * 32 + 31, none⟩ (.int .u8 (yb.toNat : Int))).drew := ⟨_, rfl⟩
                          rw [← hws] at hnx ⊢
                          have HNX := Lib.hid hnx
                          clear hnx hws
                          go_wp2_with fail
                          go_roundw
                          case rel => exact ⟨jx + 1, by omega, by go_num, HNX.out⟩
                          case measure => simp [intOf]; omega
                        · have j2 : ¬ (jx : Int) < (ns : Int) := by omega
                          have HE5 := HE4
                          have he5 := HE5.out
                          rw [HC3.out] at he5
                          obtain ⟨LLt, Lt, hLLt, hLt, hPI⟩ := he5.pfIn HO1.out hxb0 hM0 hM1
                          rw [← HC3.out] at hPI
                          have hC := encoded_any hPI (by show LLt.length ≤ 2097152; omega) (by show Lt.length ≤ 2097152; omega) nx ns (by show nx ≤ LLt.length; omega) (by show ns ≤ Lt.length; have := HMM.out; omega)
                          have HCX := Lib.hid hC
                          have RT := Lib.hid (rangeAt_all HE5.out.pf)
                          clear hC hPI hLLt hLt he5
                          go_wp2_with (refine wpList_load_mid rfl 30 (.tmp 9) rfl q 0 (by rfl) C3 _ RT.out Try.underlying30 rfl HS3.out ?_; try simp only [Act.put, List.setIfInBounds_toArray, List.set_cons_zero, List.set_cons_succ, List.getElem_toArray, List.getElem_cons_zero, List.getElem_cons_succ])
                          refine HCX.out.mono ?_
                          rintro e w9 ⟨rfl, hk9⟩
                          go_wp2_with fail
                          go_roundw
                          case rel => exact ⟨3, by omega, by go_num, HE5.out.keeps hk9⟩
                          case measure => simp [intOf]

                · have k3 : ¬ (kk : Int) < 3 := by omega
                  have KK := HB1.out.trans (G := []) HE4.out.keep (by simp)
                  have d0 := (HPC.out wr (HK1.out.trans (G := []) HE4.out.keep (by simp))).1
                  go_wp2_with fail
                  go_roundw
                  case rel => exact ⟨k + 1, by omega, by go_num, KK⟩
                  case measure => simp [intOf]; omega

    · go_wp2_with fail
      go_ret
      exact ⟨rfl, hkr⟩


theorem encodes_law {w : World} {v : Value} {pts : List Pt} (hv : PtsAt w v pts) (hb : ∀ x ∈ pts, x.pf.val.length + x.pf.sums.length + x.raw.length ≤ 1048576) :
    Calls Try.prog 4 #[v] w fun e w' => e = .returned (.bool true) ∧ Below w.heap.size w w' := by
  have CT := Lib.hid (texts_any true false hv hb)
  clear hv hb
  go_enter Try.func4, Try.ntmps4
  go_wp2_with fail
  refine CT.out.mono ?_
  rintro e w1 ⟨rfl, hk⟩
  go_wp2_with fail
  go_ret
  exact ⟨rfl, hk.below0 (Nat.le_refl _)⟩


theorem texts_law {w : World} {v : Value} {pts : List Pt} (hv : PtsAt w v pts) (hb : ∀ x ∈ pts, x.pf.val.length + x.pf.sums.length + x.raw.length ≤ 1048576) :
    Calls Try.prog 6 #[v] w fun e w' => e = .returned (.bool true) ∧ Below w.heap.size w w' := by
  have CT := Lib.hid (texts_any true true hv hb)
  clear hv hb
  go_enter Try.func6, Try.ntmps6
  go_wp2_with fail
  refine CT.out.mono ?_
  rintro e w1 ⟨rfl, hk⟩
  go_wp2_with fail
  go_ret
  exact ⟨rfl, hk.below0 (Nat.le_refl _)⟩

end Go.Proofs.Ytnobhfpjchofpaa
