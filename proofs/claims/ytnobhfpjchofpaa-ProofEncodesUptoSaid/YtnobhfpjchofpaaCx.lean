/-
  Layer 12's law: texts where only Decodes are asked.
-/
import Derived.Test.YtnobhfpjchofpaaCw
import Derived.Test.YtnobhfpjchofpaaOpenPts
namespace Go.Proofs.Ytnobhfpjchofpaa
set_option linter.unusedVariables false
set_option linter.unusedSimpArgs false
open Go.RowKit

def ztCells : List Value := .bool false :: (pfCells pf0 (.slice none 0 0) (.slice none 0 0) ++ [.slice none 0 0])
theorem info_ptext : (Try.prog.info? 44).map (fun i => (i.zero, i.size, i.bytes)) = some (some (.agg ztCells.toArray), 37, 120) := by kernel_rfl
theorem size_ptext : (Try.prog.info? 44).map (·.size) = some 37 := by kernel_rfl
theorem ztCells_len : ztCells.length = 37 := by rfl
theorem PtIn.ones {w : World} {cs : List Value} {x : Pt} (h : PtIn w cs x) : ∀ u ∈ cs, u.oneCell' = true := by
  obtain ⟨vv, sv, rv, rfl, h1, h2, ho, h3⟩ := h
  obtain ⟨a1, c1, rfl, _⟩ := h1.form
  obtain ⟨a2, c2, rfl, _⟩ := h2.form
  obtain ⟨a3, c3, rfl, _⟩ := h3.form
  intro u hu
  simp only [List.mem_cons, List.mem_append, List.not_mem_nil, or_false] at hu
  rcases hu with rfl | hu | rfl
  · rfl
  · exact pf_ones u hu
  · rfl
/-- A new variable of a text, stored into. -/
theorem pt_var {w : World} {C : List Value} (hl : C.length = 37) (h1 : ∀ u ∈ C, u.oneCell' = true) :
    (Instr.storeAt 44 (.pointer (some ⟨w.heap.size, 0, none⟩)) (.agg C.toArray)).run Try.prog (w.alloc (.cells ztCells.toArray 44 (0, 0))) = .ok () ((w.alloc (.cells ztCells.toArray 44 (0, 0))).setCells w.heap.size 0 C) ∧
    ((w.alloc (.cells ztCells.toArray 44 (0, 0))).setCells w.heap.size 0 C).heap[w.heap.size]? = some (.cells C.toArray 44 (0, 0)) ∧ Keeps [] w ((w.alloc (.cells ztCells.toArray 44 (0, 0))).setCells w.heap.size 0 C) := by
  have h := run_storeAt_mid (P := Try.prog) (w.alloc (.cells ztCells.toArray 44 (0, 0))) w.heap.size 0 44 C.toArray (there_all (heap_new_at rfl) 0 _ (by rw [ztCells_len]; simp [hl])) (by rw [size_ptext]; simp [hl]) (all_oneCell_toArray h1)
  refine ⟨by simpa using h, store_all (heap_new_at rfl) (by rw [ztCells_len, hl]), ((Keeps.refl _ _).alloc _).setCells (.inr (Nat.le_refl _)) 0 C⟩
theorem pt_cells {w : World} {b : Nat} {p : Pf} {d : Bool} {vv sv rv : Value} {t : TypeId} (ho : p.ok) (h : w.heap[b]? = some (.cells (.bool d :: (pfCells p vv sv ++ [rv])).toArray t (0, 0))) :
    w.cell? ⟨b, 0, none⟩ = some (.bool d) ∧ w.cell? ⟨b, 36, none⟩ = some rv := by
  refine ⟨by rw [cell_of_row w b _ _ _ _ h]; rfl, ?_⟩
  rw [cell_of_row w b _ _ _ _ h, List.getElem?_toArray, List.getElem?_cons_succ, List.getElem?_append_right (by rw [pf_length ho.1]; exact Nat.le_refl _), pf_length ho.1]
  rfl
theorem xor_one (n : Nat) (h : n < 256) : ∃ y : UInt8, bits BinOp.xor IntKind.u8 (n : Int) 1 = (y.toNat : Int) := by
  have key : ∀ x : Fin 256, bits BinOp.xor IntKind.u8 ((x.val : Nat) : Int) 1 = ((x.val.toUInt8 ^^^ 1).toNat : Int) := by decide +kernel
  exact ⟨_, key ⟨n, h⟩⟩

set_option maxRecDepth 100000 in
set_option maxHeartbeats 3200000 in
theorem texts_dec {w : World} {v : Value} {pts : List Pt} (hv : PtsAt w v pts) (hb : ∀ x ∈ pts, x.raw.length ≤ 1048576) :
    Calls Try.prog 9 #[v, .bool false, .bool true] w fun e w' => e = .returned (.bool true) ∧ Keeps [] w w' := by
  obtain ⟨a, c, rfl, hc, hm⟩ := hv.form
  unfold maxLen at hm
  have HV := Lib.hid hv
  have HB := Lib.hid hb
  have hal := fun (w : World) => run_alloc (P := Try.prog) w info_ptext
  have HAL := Lib.hid hal
  clear hv hb hal
  go_enter Try.func9, Try.ntmps9
  go_wp2_with fail
  go_loopw [7] (fun i wr => ∃ k : Nat, k ≤ pts.length ∧ i = .int .i64 k ∧ Keeps [] w wr) (fun i _ => pts.length - (intOf i).toNat)
  case atStart => exact ⟨0, Nat.zero_le _, rfl, Keeps.refl _ _⟩
  case round =>
    obtain ⟨k, hk, rfl, hkr⟩ := hrel
    by_cases hlt : k < pts.length
    · obtain ⟨g, o, rfl, hg, cs, hp, hr⟩ : ∃ g o, a = some ⟨g, o, none⟩ ∧ g < w.heap.size ∧ ∃ cs, PtIn w cs pts[k] ∧ w.rangeAt g (o + k * 37) cs := by
        rcases HV.out with ⟨h0, _⟩ | ⟨g, o, cap, hv, _, _, h3, h4⟩
        · subst h0; simp at hlt
        · injection hv with e _ _
          obtain ⟨cs, h5, h6⟩ := h4 k hlt
          exact ⟨g, o, e, h3, cs, h5, h6⟩
      have hxb := HB.out _ (List.getElem_mem hlt)
      obtain ⟨x, hx⟩ : ∃ x, x = pts[k] := ⟨_, rfl⟩
      rw [← hx] at hp hxb
      have hcl := hp.len
      have hc1 := hp.ones
      obtain ⟨vv, sv, rv, hcs, _, _, ho, hrw⟩ := hp
      obtain ⟨d, hd⟩ : ∃ d, d = x.dec := ⟨_, rfl⟩
      rw [← hd] at hcs
      obtain ⟨hst, hhp, hkv⟩ := pt_var (w := wr) hcl hc1
      have hr2 : wr.rangeAt g (o + k * 37) cs := rangeAt_of_heap hr (hkr.block g hg (by simp))
      have hsz : (Try.prog.info? 44).map (·.size) = some cs.length := by rw [size_ptext, hcl]
      obtain ⟨wb, hwb⟩ : ∃ wb, wb = (wr.alloc (.cells ztCells.toArray 44 (0, 0))).setCells wr.heap.size 0 cs := ⟨_, rfl⟩
      rw [← hwb] at hst hhp hkv
      rw [hcs] at hhp
      have Kb := hkr.trans (G := []) hkv (by simp)
      obtain ⟨ra, rc, rfl, hrc, hrm⟩ := hrw.form
      have hrwb := hrw.keeps Kb (by simp)
      unfold maxLen at hrm
      have hpc := fun wx (hk : Keeps [] wb wx) => pt_cells ho ((hk.block _ (lt_of_heap hhp) (by simp)).trans hhp)
      have HPC := Lib.hid hpc
      have HR2 := Lib.hid hr2
      have HSZ := Lib.hid hsz
      have HST := Lib.hid hst
      have HRW := Lib.hid hrwb
      have b0 : (0 : Int) ≤ (k : Int) := by omega
      have b1 : (k : Int) < (pts.length : Int) := by omega
      obtain ⟨d0, d36⟩ := hpc wb (Keeps.refl _ _)
      clear hx hcl hc1 hcs hd hhp hkv hr hr2 hsz hwb hrw hrwb hst hpc
      go_wp2_with (first | (refine wpList_load_mid rfl 44 (.tmp 28) rfl g (o + k * 37) (by rfl) cs _ HR2.out Try.underlying44 rfl HSZ.out ?_; try simp only [Act.put, List.setIfInBounds_toArray, List.set_cons_zero, List.set_cons_succ, List.getElem_toArray, List.getElem_cons_zero, List.getElem_cons_succ]) | (refine wl_alloc rfl 44 rfl ?_; refine ⟨_, _, HAL.out _, ?_⟩; try simp only [Act.put, List.setIfInBounds_toArray, List.set_cons_zero, List.set_cons_succ, List.getElem_toArray, List.getElem_cons_zero, List.getElem_cons_succ]) | (refine wl_store rfl 44 (.tmp 8) (.tmp 29) rfl ?_; refine ⟨_, HST.out, ?_⟩; try simp only [Act.put, List.setIfInBounds_toArray, List.set_cons_zero, List.set_cons_succ, List.getElem_toArray, List.getElem_cons_zero, List.getElem_cons_succ]))
      · refine (roomy_any HRW.out (by omega)).mono ?_
        rintro e wc ⟨gr, rfl, hgr, hO, hkc⟩
        obtain ⟨_, d36c⟩ := HPC.out wc hkc
        obtain ⟨n, hn⟩ : ∃ n, n = x.raw.length := ⟨_, rfl⟩
        rw [← hn] at hO d36c hxb ⊢
        obtain ⟨L0, hL0⟩ : ∃ L0, L0 = x.raw ++ behind := ⟨_, rfl⟩
        rw [← hL0] at hO
        have hL0l : L0.length = n + 100 := by rw [hL0, List.length_append, hn]; rfl
        have Kc := Kb.trans (G := []) hkc (by simp)
        have hszc := hkc.size
        have hszb := Kb.size
        have HOC := Lib.hid hO
        have HKC := Lib.hid Kc
        have HL0L := Lib.hid hL0l
        obtain ⟨wo, rfl⟩ : ∃ wo : World, wo = wr := ⟨_, rfl⟩
        clear hO Kc hL0 hL0l hn d0 d36
        go_wp2_with fail
        go_loopw [19] (fun i wr => ∃ (q : Nat) (LL : List UInt8), q ≤ 3 ∧ i = .int .i64 q ∧ LL.length = n + 100 ∧ OwnB wr (.slice (some ⟨gr, 0, none⟩) (n + 100) (n + 100)) LL ∧ Keeps [] w wr) (fun i _ => 3 - (intOf i).toNat)
        case atStart => exact ⟨0, L0, by omega, rfl, HL0L.out, HOC.out, HKC.out⟩
        case round =>
          obtain ⟨q, LL, hq, rfl, hLL, hOL, hkr3⟩ := hrel
          have HLL := Lib.hid hLL
          have HOL := Lib.hid hOL
          have HK3 := Lib.hid hkr3
          clear hLL hOL hkr3
          by_cases hq3 : q < 3
          · have q3 : (q : Int) < 3 := by omega
            by_cases hq0 : q = 0 ∨ n = 0
            · have hD := decoded_any (l := LL) (by rw [HLL.out]; exact ownB_bytes HOL.out) (by rw [HLL.out]; omega) n (by rw [HLL.out]; omega) (by omega)
              rw [HLL.out] at hD
              have HDD := Lib.hid hD
              clear hD
              by_cases hqz : q = 0
              · have q0 : ¬ (0 : Int) < (q : Int) := by omega
                clear hqz hq0
                go_wp2_with fail
                refine HDD.out.mono ?_
                rintro e w9 ⟨rfl, hk9⟩
                go_wp2_with fail
                go_roundw
                case rel => exact ⟨q + 1, LL, by omega, by go_num, HLL.out, ownsRow_keep HOL.out (fun j hj => hk9.block j (World.ownsRow.lt HOL.out j hj).2 (by simp)), HK3.out.trans (G := []) hk9 (by simp)⟩
                case measure => simp [intOf]; omega
              · have q0 : (0 : Int) < (q : Int) := by omega
                have n0 : ¬ (0 : Int) < (n : Int) := by omega
                clear hqz hq0
                go_wp2_with fail
                refine HDD.out.mono ?_
                rintro e w9 ⟨rfl, hk9⟩
                go_wp2_with fail
                go_roundw
                case rel => exact ⟨q + 1, LL, by omega, by go_num, HLL.out, ownsRow_keep HOL.out (fun j hj => hk9.block j (World.ownsRow.lt HOL.out j hj).2 (by simp)), HK3.out.trans (G := []) hk9 (by simp)⟩
                case measure => simp [intOf]; omega
            · obtain ⟨hq1, hn1⟩ : 0 < q ∧ 0 < n := by omega
              have q0 : (0 : Int) < (q : Int) := by omega
              have n0 : (0 : Int) < (n : Int) := by omega
              obtain ⟨m1, hm1⟩ : ∃ m1, n = m1 + 1 := ⟨n - 1, by omega⟩
              obtain ⟨jx, hjx⟩ : ∃ jx, jx = m1 / q := ⟨_, rfl⟩
              have hjn : jx < n + 100 := by
                have := Nat.div_le_self m1 q
                omega
              obtain ⟨xb, hxb2⟩ : ∃ xb, LL[jx]? = some xb := ⟨LL[jx]'(by rw [HLL.out]; exact hjn), List.getElem?_eq_getElem _⟩
              obtain ⟨yb, hyb⟩ := xor_one xb.toNat xb.toNat_lt
              have hcell := HOL.out.cell jx (by rw [HLL.out]; exact hjn)
              have hcell2 : wr.cell? ⟨gr, jx, none⟩ = some (.int .u8 xb.toNat) := by
                rw [hcell]
                have : LL[jx]'(by rw [HLL.out]; exact hjn) = xb := by
                  have := List.getElem?_eq_getElem (l := LL) (i := jx) (by rw [HLL.out]; exact hjn)
                  rw [hxb2] at this
                  injection this with this
                  exact this.symm
                rw [this]
                rfl
              have hfr := HOL.out.free jx
              have hset := HOL.out.set jx (by rw [HLL.out]; exact hjn) yb
              have hsub : IntKind.i64.wrap ((n : Int) - 1) = (m1 : Int) := by rw [IntWalk.i64_in _ (by omega), hm1]; omega
              have hsub2 : (n : Int) - 1 = (m1 : Int) := by omega
              have hdiv : (m1 : Int).tdiv (q : Int) = (jx : Int) := by rw [hjx]; exact (Int.ofNat_tdiv m1 q).symm
              have hwd : IntKind.i64.wrap (jx : Int) = (jx : Int) := IntWalk.i64_in _ (by omega)
              have qne : ¬ q = 0 := by omega
              have hm1w : IntKind.i64.wrap (m1 : Int) = (m1 : Int) := IntWalk.i64_in _ (by omega)
              have j0 : (0 : Int) ≤ (jx : Int) := by omega
              have j1 : (jx : Int) < (n : Int) + 100 := by omega
              have HJX := Lib.hid hjx
              have HM1 := Lib.hid hm1
              have HSET := Lib.hid hset
              have HYB := Lib.hid hyb
              clear hjx hm1 hset hcell hxb2
              go_wp2_with fail
              refine rl_start (fun w' => w'.cell? ⟨gr, jx, none⟩ = some (.int .u8 xb.toNat) ∧ w'.frozen? ⟨gr, jx, none⟩ = false) 14 (by kernel_rfl) ?_ (fun hHeld => ?_)
              · exact ⟨hcell2, hfr⟩
              refine' rl_take (i := 0) (v := _) rfl (by kernel_rfl) (by kernel_rfl) (by kernel_rfl) (by kernel_rfl) (fun _ _ _ h => h) (Or.inl ⟨by rfl, ?_⟩) (by assumption) ?_
              rotate_left 1
              · (intro w0 hSw; (try dsimp only at hSw); go_split_ands; go_simp; (try with_reducible rfl))
              try simp only [Act.put, List.setIfInBounds_toArray, List.set_cons_zero, List.set_cons_succ, List.getElem_toArray, List.getElem_cons_zero, List.getElem_cons_succ]
              refine' rl_take (i := 1) (v := _) rfl (by kernel_rfl) (by kernel_rfl) (by kernel_rfl) (by kernel_rfl) (fun _ _ _ h => h) (Or.inl ⟨by rfl, ?_⟩) (by assumption) ?_
              rotate_left 1
              · (intro w0 hSw; (try dsimp only at hSw); go_split_ands; go_simp; (try with_reducible rfl))
              try simp only [Act.put, List.setIfInBounds_toArray, List.set_cons_zero, List.set_cons_succ, List.getElem_toArray, List.getElem_cons_zero, List.getElem_cons_succ]
              refine' rl_take (i := 2) (v := _) rfl (by kernel_rfl) (by kernel_rfl) (by kernel_rfl) (by kernel_rfl) (fun _ _ _ h => h) (Or.inl ⟨by rfl, ?_⟩) (by assumption) ?_
              rotate_left 1
              · (intro w0 hSw; (try dsimp only at hSw); go_split_ands; go_simp; (try with_reducible rfl))
              try simp only [Act.put, List.setIfInBounds_toArray, List.set_cons_zero, List.set_cons_succ, List.getElem_toArray, List.getElem_cons_zero, List.getElem_cons_succ]
              refine' rl_take (i := 3) (v := _) rfl (by kernel_rfl) (by kernel_rfl) (by kernel_rfl) (by kernel_rfl) (fun _ _ _ h => h) (Or.inl ⟨by rfl, ?_⟩) (by assumption) ?_
              rotate_left 1
              · (intro w0 hSw; (try dsimp only at hSw); go_split_ands; go_simp; (try with_reducible rfl))
              try simp only [Act.put, List.setIfInBounds_toArray, List.set_cons_zero, List.set_cons_succ, List.getElem_toArray, List.getElem_cons_zero, List.getElem_cons_succ]
              refine' rl_take (i := 4) (v := _) rfl (by kernel_rfl) (by kernel_rfl) (by kernel_rfl) (by kernel_rfl) (fun _ _ _ h => h) (Or.inl ⟨by rfl, ?_⟩) (by assumption) ?_
              rotate_left 1
              · (intro w0 hSw; (try dsimp only at hSw); go_split_ands; go_simp; (try with_reducible rfl))
              try simp only [Act.put, List.setIfInBounds_toArray, List.set_cons_zero, List.set_cons_succ, List.getElem_toArray, List.getElem_cons_zero, List.getElem_cons_succ]
              refine' rl_take (i := 5) (v := _) rfl (by kernel_rfl) (by kernel_rfl) (by kernel_rfl) (by kernel_rfl) (fun _ _ _ h => h) (Or.inl ⟨by rfl, ?_⟩) (by assumption) ?_
              rotate_left 1
              · (intro w0 hSw; (try dsimp only at hSw); go_split_ands; go_simp; (try with_reducible rfl))
              try simp only [Act.put, List.setIfInBounds_toArray, List.set_cons_zero, List.set_cons_succ, List.getElem_toArray, List.getElem_cons_zero, List.getElem_cons_succ]
              refine' rl_take (i := 6) (v := _) rfl (by kernel_rfl) (by kernel_rfl) (by kernel_rfl) (by kernel_rfl) (fun _ _ _ h => h) (Or.inl ⟨by rfl, ?_⟩) (by assumption) ?_
              rotate_left 1
              · (intro w0 hSw; (try dsimp only at hSw); go_split_ands; go_simp; (try with_reducible rfl))
              try simp only [Act.put, List.setIfInBounds_toArray, List.set_cons_zero, List.set_cons_succ, List.getElem_toArray, List.getElem_cons_zero, List.getElem_cons_succ]
              refine' rl_take (i := 7) (v := _) rfl (by kernel_rfl) (by kernel_rfl) (by kernel_rfl) (by kernel_rfl) (fun _ _ _ h => h) (Or.inl ⟨by rfl, ?_⟩) (by assumption) ?_
              rotate_left 1
              · (intro w0 hSw; (try dsimp only at hSw); go_split_ands; go_simp; (try with_reducible rfl))
              try simp only [Act.put, List.setIfInBounds_toArray, List.set_cons_zero, List.set_cons_succ, List.getElem_toArray, List.getElem_cons_zero, List.getElem_cons_succ]
              refine' rl_take (i := 8) (v := _) rfl (by kernel_rfl) (by kernel_rfl) (by kernel_rfl) (by kernel_rfl) (fun _ _ _ h => h) (Or.inl ⟨by rfl, ?_⟩) (by assumption) ?_
              rotate_left 1
              · (intro w0 hSw; (try dsimp only at hSw); go_split_ands; go_simp; (try with_reducible rfl))
              try simp only [Act.put, List.setIfInBounds_toArray, List.set_cons_zero, List.set_cons_succ, List.getElem_toArray, List.getElem_cons_zero, List.getElem_cons_succ]
              refine' rl_take (i := 9) (v := _) rfl (by kernel_rfl) (by kernel_rfl) (by kernel_rfl) (by kernel_rfl) (fun _ _ _ h => h) (Or.inl ⟨by rfl, ?_⟩) (by assumption) ?_
              rotate_left 1
              · (intro w0 hSw; (try dsimp only at hSw); go_split_ands; go_simp; (try with_reducible rfl))
              try simp only [Act.put, List.setIfInBounds_toArray, List.set_cons_zero, List.set_cons_succ, List.getElem_toArray, List.getElem_cons_zero, List.getElem_cons_succ]
              refine' rl_take (i := 10) (v := _) rfl (by kernel_rfl) (by kernel_rfl) (by kernel_rfl) (by kernel_rfl) (fun _ _ _ h => h) (Or.inl ⟨by rfl, ?_⟩) (by assumption) ?_
              rotate_left 1
              · (intro w0 hSw; (try dsimp only at hSw); go_split_ands; go_simp; (try with_reducible rfl))
              try simp only [Act.put, List.setIfInBounds_toArray, List.set_cons_zero, List.set_cons_succ, List.getElem_toArray, List.getElem_cons_zero, List.getElem_cons_succ]
              refine' rl_take (i := 11) (v := _) rfl (by kernel_rfl) (by kernel_rfl) (by kernel_rfl) (by kernel_rfl) (fun _ _ _ h => h) (Or.inl ⟨by rfl, ?_⟩) (by assumption) ?_
              rotate_left 1
              · (intro w0 hSw; (try dsimp only at hSw); go_split_ands; go_simp; (try with_reducible rfl))
              try simp only [Act.put, List.setIfInBounds_toArray, List.set_cons_zero, List.set_cons_succ, List.getElem_toArray, List.getElem_cons_zero, List.getElem_cons_succ]
              refine' rl_take (i := 12) (v := _) rfl (by kernel_rfl) (by kernel_rfl) (by kernel_rfl) (by kernel_rfl) (fun _ _ _ h => h) (Or.inl ⟨by rfl, ?_⟩) (by assumption) ?_
              rotate_left 1
              · (intro w0 hSw; (try dsimp only at hSw); go_split_ands; go_simp; (try with_reducible rfl))
              try simp only [Act.put, List.setIfInBounds_toArray, List.set_cons_zero, List.set_cons_succ, List.getElem_toArray, List.getElem_cons_zero, List.getElem_cons_succ]
              refine' rl_take (i := 13) (v := _) rfl (by kernel_rfl) (by kernel_rfl) (by kernel_rfl) (by kernel_rfl) (fun _ _ _ h => h) (Or.inl ⟨by rfl, ?_⟩) (by assumption) ?_
              rotate_left 1
              · (intro w0 hSw; (try dsimp only at hSw); go_split_ands; go_simp; (try with_reducible rfl))
              try simp only [Act.put, List.setIfInBounds_toArray, List.set_cons_zero, List.set_cons_succ, List.getElem_toArray, List.getElem_cons_zero, List.getElem_cons_succ]
              refine rl_last (by kernel_rfl) (by kernel_rfl) rfl (fun K hK => ?_)
              go_simp
              refine hK.out _ _ ?_
              clear hK K
              try simp only [Act.put, List.setIfInBounds_toArray, List.set_cons_zero, List.set_cons_succ, List.getElem_toArray, List.getElem_cons_zero, List.getElem_cons_succ]
              clear hsub hsub2 hdiv hwd hm1w qne j0 j1 hcell2 hfr hHeld
              obtain ⟨LN, hLN⟩ : ∃ LN, LN = LL.set jx yb := ⟨_, rfl⟩
              have hset := HSET.out
              rw [← hLN] at hset
              unfold B at hset
              have hLNl : LN.length = n + 100 := by rw [hLN, List.length_set, HLL.out]
              have hk2 := (HK3.out.setCell (p := ⟨gr, jx, none⟩) (.inr (show w.heap.size ≤ gr by omega)) (.int .u8 (yb.toNat : Int))).drew
              obtain ⟨ws, hws⟩ : ∃ ws, ws = (wr.setCell ⟨gr, jx, none⟩ (.int .u8 (yb.toNat : Int))).drew := ⟨_, rfl⟩
              have hset2 : OwnB ws (.slice (some ⟨gr, 0, none⟩) (n + 100) (n + 100)) LN := by rw [hws]; exact ownsRow_keep hset (fun _ _ => rfl)
              rw [← hws] at hk2
              have hD := decoded_any (l := LN) (by rw [hLNl]; exact ownB_bytes hset2) (by rw [hLNl]; omega) n (by rw [hLNl]; omega) (by omega)
              rw [hLNl] at hD
              have HDD := Lib.hid hD
              have HS2 := Lib.hid hset2
              have HLN := Lib.hid hLNl
              have HK2 := Lib.hid hk2
              have HWS := Lib.hid hws
              clear hD hset hset2 hLN hLNl hk2 hws
              rw [← HWS.out]
              go_wp2_with fail
              refine HDD.out.mono ?_
              rintro e w9 ⟨rfl, hk9⟩
              go_wp2_with fail
              go_roundw
              case rel => exact ⟨q + 1, LN, by omega, by go_num, HLN.out, ownsRow_keep HS2.out (fun j hj => hk9.block j (World.ownsRow.lt HS2.out j hj).2 (by simp)), HK2.out.trans (G := []) hk9 (by simp)⟩
              case measure => simp [intOf]; omega
          · have e : q = 3 := by omega
            subst e
            go_wp2_with fail
            go_roundw
            case rel => exact ⟨k + 1, by omega, by go_num, HK3.out⟩
            case measure => simp [intOf]; omega
      · go_roundw
        case rel => exact ⟨k + 1, by omega, by go_num, Kb⟩
        case measure => simp [intOf]; omega
    · go_wp2_with fail
      go_ret
      exact ⟨rfl, hkr⟩


theorem decodes_law {w : World} {v : Value} {pts : List Pt} (hv : PtsAt w v pts) (hb : ∀ x ∈ pts, x.pf.val.length + x.pf.sums.length + x.raw.length ≤ 1048576) :
    Calls Try.prog 5 #[v] w fun e w' => e = .returned (.bool true) ∧ Below w.heap.size w w' := by
  have CT := Lib.hid (texts_dec hv (fun x hx => by have := hb x hx; omega))
  clear hv hb
  go_enter Try.func5, Try.ntmps5
  go_wp2_with fail
  refine CT.out.mono ?_
  rintro e w1 ⟨rfl, hk⟩
  go_wp2_with fail
  go_ret
  exact ⟨rfl, hk.below0 (Nat.le_refl _)⟩

end Go.Proofs.Ytnobhfpjchofpaa
