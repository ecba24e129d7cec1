/-
  The walks of package disk's Flip and of ledgerlaw4.bits.
-/
import Derived.Test.YtbjffjplpnnhoaaFlA
namespace Go.Proofs.Ytbjffjplpnnhoaa
set_option linter.unusedVariables false
set_option linter.unusedSimpArgs false
open Go.RowKit

theorem setAt_one (img : List UInt8) {o : Nat} (h : o < img.length) (y : UInt8) : setAt img o [y] = img.set o y := by
  unfold setAt
  rw [List.set_eq_take_append_cons_drop, if_pos h]
  simp
theorem DiskIn.setb {w : World} {b : Nat} {d : D} {bp bm : Nat} {qv : Value} (h : DiskIn w b d bp qv bm) {o : Nat} (ho : o < d.img.length) (y : UInt8) :
    DiskIn (w.setCell ⟨bp, o, none⟩ (.int .u8 (y.toNat : Int))) b { d with img := d.img.set o y } bp qv bm := by
  have := h.seta o [y] (by simp; omega)
  rw [setAt_one _ ho] at this
  exact this
theorem DiskIn.byte {w : World} {b : Nat} {d : D} {bp bm : Nat} {qv : Value} (h : DiskIn w b d bp qv bm) {o : Nat} (ho : o < d.img.length) :
    w.cell? ⟨bp, o, none⟩ = some (.int .u8 ((d.img.getD o 0).toNat)) ∧ w.frozen? ⟨bp, o, none⟩ = false := by
  refine ⟨?_, frozen_of_row w bp o _ _ h.pages⟩
  rw [cell_of_row w bp o _ _ _ h.pages, List.getElem?_toArray, List.getElem?_map, List.getElem?_eq_getElem ho, List.getD_eq_getElem?_getD, List.getElem?_eq_getElem ho]
  rfl
theorem dFlip_page {w : World} {b bp n cap : Nat} {page bit pat : Int} (h4 : w.cell? ⟨b, 4, none⟩ = some (.slice (some ⟨bp, 0, none⟩) n cap)) (hp : page < 0 ∨ (n : Int) ≤ page) :
    Calls Try.prog 22 #[.pointer (some ⟨b, 0, none⟩), .int .i64 page, .int .i64 bit, .int .u32 pat] w fun e w' => e = .returned (.int .i64 41) ∧ w = w' := by
  have hd : (decide (0 ≤ page) && decide (page < n)) = false := by simp; omega
  have c := dHas_any page h4
  rw [hd] at c
  go_enter Try.func22, Try.ntmps22
  go_wp2_with (go_at_call 38; refine c.mono ?_; rintro e w' ⟨rfl, rfl⟩)
  go_ret
  exact ⟨rfl, rfl⟩
theorem dFlip_arg {w : World} {b bp n cap : Nat} {page bit pat : Int} (h4 : w.cell? ⟨b, 4, none⟩ = some (.slice (some ⟨bp, 0, none⟩) n cap)) (hp : 0 ≤ page) (hp1 : page < n) (hb : bit < 0 ∨ 2048 ≤ bit) :
    Calls Try.prog 22 #[.pointer (some ⟨b, 0, none⟩), .int .i64 page, .int .i64 bit, .int .u32 pat] w fun e w' => e = .returned (.int .i64 1) ∧ w = w' := by
  have hd : (decide (0 ≤ page) && decide (page < n)) = true := by simp; omega
  have c := dHas_any page h4
  rw [hd] at c
  rcases hb with hb | hb
  · go_enter Try.func22, Try.ntmps22
    go_wp2_with (go_at_call 38; refine c.mono ?_; rintro e w' ⟨rfl, rfl⟩)
    go_ret
    exact ⟨rfl, rfl⟩
  · have hb0 : ¬ bit < 0 := by omega
    go_enter Try.func22, Try.ntmps22
    go_wp2_with (go_at_call 38; refine c.mono ?_; rintro e w' ⟨rfl, rfl⟩)
    go_ret
    exact ⟨rfl, rfl⟩
theorem and32_one (P : Nat) (h : P < 4294967296) : bits BinOp.and IntKind.u32 (P : Int) 1 = ((P % 2 : Nat) : Int) := by
  have := u32_and_nat P 1 h (by omega)
  rw [show ((1 : Nat) : Int) = 1 from rfl] at this
  rw [this, Nat.and_one_is_mod]
theorem bit_of (p k : Nat) : p / 2 ^ k % 2 = if p.testBit k then 1 else 0 := by
  rw [Nat.testBit_eq_decide_div_mod_eq]
  by_cases h : p / 2 ^ k % 2 = 1
  · simp [h]
  · have : p / 2 ^ k % 2 = 0 := by omega
    simp [this]
theorem shl_bit (c : Bool) {t : Nat} (ht : t < 8) : IntKind.u8.wrap (((if c then 1 else 0 : Nat) : Int) * 2 ^ t) = ((vbit c t).toNat : Int) := by
  have key : ∀ (c : Bool) (t : Fin 8), IntKind.u8.wrap (((if c then 1 else 0 : Nat) : Int) * 2 ^ t.val) = ((vbit c t.val).toNat : Int) := by decide +kernel
  exact key c ⟨t, ht⟩

set_option maxRecDepth 100000 in
set_option maxHeartbeats 1600000 in
theorem dFlip_ok {w : World} {b : Nat} {d : D} {bp bm : Nat} {qv : Value} (hI : DiskIn w b d bp qv bm) (page bit p : Nat) (hp : page < d.n) (hb : bit < 2048) (hpat : p < 4294967296) :
    Calls Try.prog 22 #[.pointer (some ⟨b, 0, none⟩), .int .i64 page, .int .i64 bit, .int .u32 p] w fun e w' => e = .returned (.int .i64 0) ∧
      DiskIn w' b { d with img := flipK d.img (2048 * page + bit) p (min 32 (2048 - bit)) } bp qv bm ∧ Keeps [bp] w w' := by
  obtain ⟨c0, c1, c2, c3, c4, c5, c6, c7, c8, c9⟩ := hI.cells
  have hok := hI.ok
  have hn := hok.2.1
  have hil := hok.2.2.1
  have hh := dHas_any (page : Int) c4
  rw [show (decide (0 ≤ (page : Int)) && decide ((page : Int) < d.n)) = true by simp [hp]] at hh
  have HH := Lib.hid hh
  have HI := Lib.hid hI
  have HIL := Lib.hid hil
  have b0 : ¬ (bit : Int) < 0 := by omega
  have b1 : (bit : Int) < 2048 := by omega
  clear hh hI hok c0 c1 c2 c3 c5 c6 c7 c8 c9 hil
  go_enter Try.func22, Try.ntmps22
  go_wp2_with (go_at_call 38; refine HH.out.mono ?_; rintro e w' ⟨rfl, rfl⟩)
  clear c4
  go_loopw [2, 3] (fun bt pt wr => ∃ k : Nat, k ≤ 32 ∧ bit + k ≤ 2048 ∧ bt = .int .i64 ((bit + k : Nat) : Int) ∧ pt = .int .u32 ((p / 2 ^ k : Nat) : Int) ∧ DiskIn wr b { d with img := flipK d.img (2048 * page + bit) p k } bp qv bm ∧ Keeps [bp] w wr) (fun bt _ _ => 2048 - (intOf bt).toNat)
  case atStart => exact ⟨0, by omega, by omega, rfl, by simp, HI.out, Keeps.refl _ _⟩
  case round =>
    obtain ⟨k, hk, hbk, rfl, rfl, hIk, hkr⟩ := hrel
    obtain ⟨P, hP⟩ : ∃ P, P = p / 2 ^ k := ⟨_, rfl⟩
    obtain ⟨K, hK⟩ : ∃ K, K = bit + k := ⟨_, rfl⟩
    have hPl : P < 4294967296 := by rw [hP]; exact Nat.lt_of_le_of_lt (Nat.div_le_self _ _) hpat
    have hend : (P = 0 ∨ K = 2048) → DiskIn wr b { d with img := flipK d.img (2048 * page + bit) p (min 32 (2048 - bit)) } bp qv bm := by
      intro h
      have e : flipK d.img (2048 * page + bit) p k = flipK d.img (2048 * page + bit) p (min 32 (2048 - bit)) := by
        refine flip_more _ _ _ (by omega) (by rw [HIL.out]; omega) fun j h1 h2 => ?_
        rcases h with h | h
        · rw [Nat.testBit_eq_decide_div_mod_eq]
          have h3 : p / 2 ^ j = 0 := by
            rw [show j = k + (j - k) from by omega, Nat.pow_add, ← Nat.div_div_eq_div_mul, ← hP, h]
            simp
          rw [h3]
          rfl
        · omega
      rw [← e]
      exact hIk
    have hK3 : K ≤ 2048 := by omega
    rw [← hP, ← hK]
    have HIK := Lib.hid hIk
    have HKR := Lib.hid hkr
    have HP := Lib.hid hP
    have HK := Lib.hid hK
    have HEND := Lib.hid hend
    clear hIk hkr hP hK hend
    by_cases hz : P = 0
    · have z1 : ¬ (P : Int) ≠ 0 := by omega
      have hfin := HEND.out (.inl hz)
      subst hz
      simp only [show ((0 : Nat) : Int) = 0 from rfl]
      go_wp2_with fail
      go_ret
      exact ⟨rfl, hfin, HKR.out⟩
    · have z1 : ¬ (P : Int) = 0 := by omega
      have hk32 : k < 32 := by
        rcases Nat.lt_or_ge k 32 with h | h
        · exact h
        · have e : k = 32 := by omega
          exact absurd (by rw [HP.out, e]; exact Nat.div_eq_of_lt (by omega)) hz
      by_cases hK2 : K < 2048
      · have k2 : (K : Int) < 2048 := by omega
        obtain ⟨J, hJ⟩ : ∃ J, J = K / 8 := ⟨_, rfl⟩
        obtain ⟨T, hT⟩ : ∃ T, T = K % 8 := ⟨_, rfl⟩
        have hJl : J < 256 := by omega
        have hTl : T < 8 := by omega
        have hil2 : (flipK d.img (2048 * page + bit) p k).length = 256 * d.n := by rw [flipK_length]; exact HIL.out
        have hoff : page * 256 + J < (flipK d.img (2048 * page + bit) p k).length := by rw [hil2]; omega
        obtain ⟨hcell, hfr⟩ := HIK.out.byte hoff
        obtain ⟨old, hold⟩ : ∃ old, old = (flipK d.img (2048 * page + bit) p k).getD (page * 256 + J) 0 := ⟨_, rfl⟩
        simp only [← hold] at hcell
        have hset := HIK.out.setb hoff (old ^^^ vbit (p.testBit k) T)
        have hstep : flipK d.img (2048 * page + bit) p (k + 1) = (flipK d.img (2048 * page + bit) p k).set (page * 256 + J) (old ^^^ vbit (p.testBit k) T) := by
          rw [flipK, show (2048 * page + bit + k) / 8 = page * 256 + J from by have := HK.out; omega, show (2048 * page + bit + k) % 8 = T from by have := HK.out; omega, ← hold]
        have g4 := HIK.out.cells.2.2.2.2.1
        have e1 : bits BinOp.and IntKind.u32 (P : Int) 1 = ((if p.testBit k then 1 else 0 : Nat) : Int) := by rw [and32_one P hPl, HP.out, bit_of]
        obtain ⟨c, hc⟩ : ∃ c : Nat, c = if p.testBit k then 1 else 0 := ⟨_, rfl⟩
        have hcl : c ≤ 1 := by rw [hc]; split <;> omega
        have e3 := shl_bit (p.testBit k) hTl
        rw [← hc] at e1 e3
        have e2 : IntKind.u8.wrap (c : Int) = (c : Int) := by rw [IntKind.wrap_u8]; omega
        obtain ⟨vb, hvb⟩ : ∃ vb, vb = vbit (p.testBit k) T := ⟨_, rfl⟩
        rw [← hvb] at hset hstep e3
        have e4 := xor_bytes old vb
        obtain ⟨nw, hnw⟩ : ∃ nw, nw = old ^^^ vb := ⟨_, rfl⟩
        rw [← hnw] at hset hstep e4
        have d1 : (K : Int) / 8 = (J : Int) := by omega
        have d2 : (K : Int) % 8 = (T : Int) := by omega
        have d3 : (K : Int).tdiv 8 = (J : Int) := by rw [Int.tdiv_eq_ediv_of_nonneg (by omega)]; omega
        have d4 : (K : Int).tmod 8 = (T : Int) := by rw [Int.tmod_eq_emod_of_nonneg (by omega)]; omega
        have d5 : IntKind.i64.wrap (J : Int) = (J : Int) := IntWalk.i64_in _ (by omega)
        have j0 : (0 : Int) ≤ (J : Int) := by omega
        have j1 : (J : Int) < 256 := by omega
        have t0 : (0 : Int) ≤ (T : Int) := by omega
        have p0 : (0 : Int) ≤ (page : Int) := by omega
        have p1 : (page : Int) < (d.n : Int) := by omega
        have HSET := Lib.hid hset
        have HSTEP := Lib.hid hstep
        clear hset hstep hold hnw hvb hc hil2 hoff hJ hT
        go_wp2_with fail
        refine rl_start (fun w' => (w'.cell? ⟨b, 4, none⟩ = some (.slice (some ⟨bp, 0, none⟩) d.n d.n) ∧ w'.cell? ⟨bp, page * 256 + J, none⟩ = some (.int .u8 old.toNat)) ∧ w'.frozen? ⟨bp, page * 256 + J, none⟩ = false) 19 (by kernel_rfl) ?_ (fun hHeld => ?_)
        · exact ⟨⟨g4, hcell⟩, hfr⟩
        refine' rl_take (i := 0) (v := _) rfl (by kernel_rfl) (by kernel_rfl) (by kernel_rfl) (by kernel_rfl) (fun _ _ _ h => h) (Or.inl ⟨by rfl, ?_⟩) (by assumption) ?_
        rotate_left 1
        · (intro w0 hSw; (try dsimp only at hSw); go_split_ands; go_simp; (try with_reducible rfl))
        try simp only [Act.put, List.setIfInBounds_toArray, List.set_cons_zero, List.set_cons_succ, List.getElem_toArray, List.getElem_cons_zero, List.getElem_cons_succ]
        refine' rl_take (i := 1) (v := _) rfl (by kernel_rfl) (by kernel_rfl) (by kernel_rfl) (by kernel_rfl) (fun _ _ _ h => h) (Or.inl ⟨by rfl, ?_⟩) (by assumption) ?_
        rotate_left 1
        · (intro w0 hSw; (try dsimp only at hSw); go_split_ands; go_simp; (try with_reducible rfl))
        try simp only [Act.put, List.setIfInBounds_toArray, List.set_cons_zero, List.set_cons_succ, List.getElem_toArray, List.getElem_cons_zero, List.getElem_cons_succ]
        refine' rl_take (i := 2) (v := _) rfl (by kernel_rfl) (by kernel_rfl) (by kernel_rfl) (by kernel_rfl) (fun _ _ _ h => h) (Or.inl ⟨by rfl, ?_⟩) (by assumption) ?_
        rotate_left 1
        · (intro w0 hSw; (try dsimp only at hSw); go_split_ands; go_simp; (try with_reducible rfl))
        try simp only [Act.put, List.setIfInBounds_toArray, List.set_cons_zero, List.set_cons_succ, List.getElem_toArray, List.getElem_cons_zero, List.getElem_cons_succ]
        refine' rl_take (i := 3) (v := _) rfl (by kernel_rfl) (by kernel_rfl) (by kernel_rfl) (by kernel_rfl) (fun _ _ _ h => h) (Or.inl ⟨by rfl, ?_⟩) (by assumption) ?_
        rotate_left 1
        · (intro w0 hSw; (try dsimp only at hSw); go_split_ands; go_simp; (try with_reducible rfl))
        try simp only [Act.put, List.setIfInBounds_toArray, List.set_cons_zero, List.set_cons_succ, List.getElem_toArray, List.getElem_cons_zero, List.getElem_cons_succ]
        refine' rl_take (i := 4) (v := _) rfl (by kernel_rfl) (by kernel_rfl) (by kernel_rfl) (by kernel_rfl) (fun _ _ _ h => h) (Or.inl ⟨by rfl, ?_⟩) (by assumption) ?_
        rotate_left 1
        · (intro w0 hSw; (try dsimp only at hSw); go_split_ands; go_simp; (try with_reducible rfl))
        try simp only [Act.put, List.setIfInBounds_toArray, List.set_cons_zero, List.set_cons_succ, List.getElem_toArray, List.getElem_cons_zero, List.getElem_cons_succ]
        refine' rl_take (i := 5) (v := _) rfl (by kernel_rfl) (by kernel_rfl) (by kernel_rfl) (by kernel_rfl) (fun _ _ _ h => h) (Or.inl ⟨by rfl, ?_⟩) (by assumption) ?_
        rotate_left 1
        · (intro w0 hSw; (try dsimp only at hSw); go_split_ands; go_simp; (try with_reducible rfl))
        try simp only [Act.put, List.setIfInBounds_toArray, List.set_cons_zero, List.set_cons_succ, List.getElem_toArray, List.getElem_cons_zero, List.getElem_cons_succ]
        refine' rl_take (i := 6) (v := _) rfl (by kernel_rfl) (by kernel_rfl) (by kernel_rfl) (by kernel_rfl) (fun _ _ _ h => h) (Or.inl ⟨by rfl, ?_⟩) (by assumption) ?_
        rotate_left 1
        · (intro w0 hSw; (try dsimp only at hSw); go_split_ands; go_simp; (try with_reducible rfl))
        try simp only [Act.put, List.setIfInBounds_toArray, List.set_cons_zero, List.set_cons_succ, List.getElem_toArray, List.getElem_cons_zero, List.getElem_cons_succ]
        refine' rl_take (i := 7) (v := _) rfl (by kernel_rfl) (by kernel_rfl) (by kernel_rfl) (by kernel_rfl) (fun _ _ _ h => h) (Or.inl ⟨by rfl, ?_⟩) (by assumption) ?_
        rotate_left 1
        · (intro w0 hSw; (try dsimp only at hSw); go_split_ands; go_simp; (try with_reducible rfl))
        try simp only [Act.put, List.setIfInBounds_toArray, List.set_cons_zero, List.set_cons_succ, List.getElem_toArray, List.getElem_cons_zero, List.getElem_cons_succ]
        refine' rl_take (i := 8) (v := _) rfl (by kernel_rfl) (by kernel_rfl) (by kernel_rfl) (by kernel_rfl) (fun _ _ _ h => h) (Or.inl ⟨by rfl, ?_⟩) (by assumption) ?_
        rotate_left 1
        · (intro w0 hSw; (try dsimp only at hSw); go_split_ands; go_simp; (try with_reducible rfl))
        try simp only [Act.put, List.setIfInBounds_toArray, List.set_cons_zero, List.set_cons_succ, List.getElem_toArray, List.getElem_cons_zero, List.getElem_cons_succ]
        refine' rl_take (i := 9) (v := _) rfl (by kernel_rfl) (by kernel_rfl) (by kernel_rfl) (by kernel_rfl) (fun _ _ _ h => h) (Or.inl ⟨by rfl, ?_⟩) (by assumption) ?_
        rotate_left 1
        · (intro w0 hSw; (try dsimp only at hSw); go_split_ands; go_simp; (try with_reducible rfl))
        try simp only [Act.put, List.setIfInBounds_toArray, List.set_cons_zero, List.set_cons_succ, List.getElem_toArray, List.getElem_cons_zero, List.getElem_cons_succ]
        refine' rl_take (i := 10) (v := _) rfl (by kernel_rfl) (by kernel_rfl) (by kernel_rfl) (by kernel_rfl) (fun _ _ _ h => h) (Or.inl ⟨by rfl, ?_⟩) (by assumption) ?_
        rotate_left 1
        · (intro w0 hSw; (try dsimp only at hSw); go_split_ands; go_simp; (try with_reducible rfl))
        try simp only [Act.put, List.setIfInBounds_toArray, List.set_cons_zero, List.set_cons_succ, List.getElem_toArray, List.getElem_cons_zero, List.getElem_cons_succ]
        refine' rl_take (i := 11) (v := _) rfl (by kernel_rfl) (by kernel_rfl) (by kernel_rfl) (by kernel_rfl) (fun _ _ _ h => h) (Or.inl ⟨by rfl, ?_⟩) (by assumption) ?_
        rotate_left 1
        · (intro w0 hSw; (try dsimp only at hSw); go_split_ands; go_simp; (try with_reducible rfl))
        try simp only [Act.put, List.setIfInBounds_toArray, List.set_cons_zero, List.set_cons_succ, List.getElem_toArray, List.getElem_cons_zero, List.getElem_cons_succ]
        refine' rl_take (i := 12) (v := _) rfl (by kernel_rfl) (by kernel_rfl) (by kernel_rfl) (by kernel_rfl) (fun _ _ _ h => h) (Or.inl ⟨by rfl, ?_⟩) (by assumption) ?_
        rotate_left 1
        · (intro w0 hSw; (try dsimp only at hSw); go_split_ands; go_simp; (try with_reducible rfl))
        try simp only [Act.put, List.setIfInBounds_toArray, List.set_cons_zero, List.set_cons_succ, List.getElem_toArray, List.getElem_cons_zero, List.getElem_cons_succ]
        refine' rl_take (i := 13) (v := _) rfl (by kernel_rfl) (by kernel_rfl) (by kernel_rfl) (by kernel_rfl) (fun _ _ _ h => h) (Or.inl ⟨by rfl, ?_⟩) (by assumption) ?_
        rotate_left 1
        · (intro w0 hSw; (try dsimp only at hSw); go_split_ands; go_simp; (try with_reducible rfl))
        try simp only [Act.put, List.setIfInBounds_toArray, List.set_cons_zero, List.set_cons_succ, List.getElem_toArray, List.getElem_cons_zero, List.getElem_cons_succ]
        refine' rl_take (i := 14) (v := _) rfl (by kernel_rfl) (by kernel_rfl) (by kernel_rfl) (by kernel_rfl) (fun _ _ _ h => h) (Or.inl ⟨by rfl, ?_⟩) (by assumption) ?_
        rotate_left 1
        · (intro w0 hSw; (try dsimp only at hSw); go_split_ands; go_simp; (try with_reducible rfl))
        try simp only [Act.put, List.setIfInBounds_toArray, List.set_cons_zero, List.set_cons_succ, List.getElem_toArray, List.getElem_cons_zero, List.getElem_cons_succ]
        refine' rl_take (i := 15) (v := _) rfl (by kernel_rfl) (by kernel_rfl) (by kernel_rfl) (by kernel_rfl) (fun _ _ _ h => h) (Or.inl ⟨by rfl, ?_⟩) (by assumption) ?_
        rotate_left 1
        · (intro w0 hSw; (try dsimp only at hSw); go_split_ands; go_simp; (try with_reducible rfl))
        try simp only [Act.put, List.setIfInBounds_toArray, List.set_cons_zero, List.set_cons_succ, List.getElem_toArray, List.getElem_cons_zero, List.getElem_cons_succ]
        refine' rl_take (i := 16) (v := _) rfl (by kernel_rfl) (by kernel_rfl) (by kernel_rfl) (by kernel_rfl) (fun _ _ _ h => h) (Or.inl ⟨by rfl, ?_⟩) (by assumption) ?_
        rotate_left 1
        · (intro w0 hSw; (try dsimp only at hSw); go_split_ands; go_simp; (try with_reducible rfl))
        try simp only [Act.put, List.setIfInBounds_toArray, List.set_cons_zero, List.set_cons_succ, List.getElem_toArray, List.getElem_cons_zero, List.getElem_cons_succ]
        refine rl_act (i := 17) (by kernel_rfl) rfl (fun K hK => ?_)
        go_simp
        refine hK.out _ _ ?_ (fun hHeld => ?_)
        · exact ⟨⟨g4, hcell⟩, hfr⟩
        clear hK K
        try simp only [Act.put, List.setIfInBounds_toArray, List.set_cons_zero, List.set_cons_succ, List.getElem_toArray, List.getElem_cons_zero, List.getElem_cons_succ]
        refine' rl_take (i := 18) (v := _) rfl (by kernel_rfl) (by kernel_rfl) (by kernel_rfl) (by kernel_rfl) (fun _ _ _ h => h) (Or.inl ⟨by rfl, ?_⟩) (by assumption) ?_
        rotate_left 1
        · (intro w0 hSw; (try dsimp only at hSw); go_split_ands; go_simp; (try with_reducible rfl))
        try simp only [Act.put, List.setIfInBounds_toArray, List.set_cons_zero, List.set_cons_succ, List.getElem_toArray, List.getElem_cons_zero, List.getElem_cons_succ]
        refine rl_last (by kernel_rfl) (by kernel_rfl) rfl (fun K hK => ?_)
        go_simp
        refine hK.out _ _ ?_
        clear hK K
        try simp only [Act.put, List.setIfInBounds_toArray, List.set_cons_zero, List.set_cons_succ, List.getElem_toArray, List.getElem_cons_zero, List.getElem_cons_succ]
        clear hHeld hcell hfr g4 e1 e2 e3 e4 d1 d2 d3 d4 d5
        have hset := HSET.out
        rw [← HSTEP.out] at hset
        have hk2 := (HKR.out.setCell (p := ⟨bp, page * 256 + J, none⟩) (.inl (by simp)) (.int .u8 (nw.toNat : Int))).drew
        obtain ⟨ws, hws⟩ : ∃ ws, ws = (wr.setCell ⟨bp, page * 256 + J, none⟩ (.int .u8 (nw.toNat : Int))).drew := ⟨_, rfl⟩
        have hset2 : DiskIn ws b { d with img := flipK d.img (2048 * page + bit) p (k + 1) } bp qv bm := by
          rw [hws]
          exact hset.keep (fun _ _ => rfl)
        rw [← hws] at hk2 ⊢
        have HS2 := Lib.hid hset2
        have HK2 := Lib.hid hk2
        clear hset hset2 hk2 hws HSET HSTEP
        go_wp2_with fail
        go_roundw
        case rel =>
          refine ⟨k + 1, by have := HK.out; omega, by have := HK.out; omega, ?_, ?_, HS2.out, HK2.out⟩
          · have := HK.out
            go_num
          · rw [Nat.pow_succ, ← Nat.div_div_eq_div_mul, ← HP.out]
            go_num
        case measure => simp [intOf]; omega
      · have k2 : ¬ (K : Int) < 2048 := by omega
        have hfin := HEND.out (.inr (by omega))
        go_wp2_with fail
        go_ret
        exact ⟨rfl, hfin, HKR.out⟩


theorem pops_le (a b : List UInt8) : ∀ k, pops a b k ≤ 8 * k
  | 0 => Nat.le_refl _
  | k + 1 => by
    have h1 := pops_le a b k
    have h2 := Lib.onesCount_le8 ⟨(a.getD k 0 ^^^ b.getD k 0).toNat, (a.getD k 0 ^^^ b.getD k 0).toNat_lt⟩
    simp only at h2
    unfold pops
    omega
set_option maxRecDepth 100000 in
set_option maxHeartbeats 1600000 in
theorem lBits_any {w : World} {v1 v2 : Value} {l1 l2 : List UInt8} (h1 : BytesAt w v1 l1) (h2 : BytesAt w v2 l2) (hl : l1.length = l2.length) (hb : l1.length ≤ 16777216) {m : Nat} (hm : pops l1 l2 l1.length = m) :
    Calls Try.prog 23 #[v1, v2] w fun e w' => e = .returned (.int .i64 m) ∧ Keeps [] w w' := by
  obtain ⟨a1, c1, rfl, hc1, hm1⟩ := h1.form
  obtain ⟨a2, c2, rfl, hc2, hm2⟩ := h2.form
  unfold maxLen at hm1 hm2
  have H1 := Lib.hid h1
  have H2 := Lib.hid h2
  have HM := Lib.hid hm
  have HL := Lib.hid hl
  have hl2 : l2.length ≤ 16777216 := by omega
  clear h1 h2 hm hl
  go_enter Try.func23, Try.ntmps23
  go_wp2_with fail
  go_loopw [5, 6] (fun s i wr => ∃ k : Nat, k ≤ l1.length ∧ s = .int .i64 (pops l1 l2 k : Nat) ∧ i = .int .i64 k ∧ Keeps [] w wr) (fun _ i _ => l1.length - (intOf i).toNat)
  case atStart => exact ⟨0, Nat.zero_le _, rfl, rfl, Keeps.refl _ _⟩
  case round =>
    obtain ⟨k, hk, rfl, rfl, hkr⟩ := hrel
    have hpl := pops_le l1 l2 k
    obtain ⟨q, hq⟩ : ∃ q, q = pops l1 l2 k := ⟨_, rfl⟩
    rw [← hq] at hpl ⊢
    have HQ := Lib.hid hq
    clear hq
    by_cases hlt : k < l1.length
    · obtain ⟨g1, o1, rfl, hg1, hr1⟩ := H1.out.at (by omega)
      obtain ⟨g2, o2, rfl, hg2, hr2⟩ := H2.out.at (by rw [← HL.out]; omega)
      have hlt2 : k < l2.length := by rw [← HL.out]; exact hlt
      obtain ⟨x, hx⟩ : ∃ x, x = l1.getD k 0 := ⟨_, rfl⟩
      obtain ⟨y, hy⟩ : ∃ y, y = l2.getD k 0 := ⟨_, rfl⟩
      have e1 := range_byte hr1 (w' := wr) (hkr.block g1 hg1 (by simp)) (k := k) (x := x) (by rw [hx, List.getD_eq_getElem?_getD, List.getElem?_eq_getElem hlt]; rfl)
      have e2 := range_byte hr2 (w' := wr) (hkr.block g2 hg2 (by simp)) (k := k) (x := y) (by rw [hy, List.getD_eq_getElem?_getD, List.getElem?_eq_getElem hlt2]; rfl)
      have b0 : (0 : Int) ≤ (k : Int) := by omega
      have b1 : (k : Int) < (l1.length : Int) := by omega
      have b2 : (k : Int) < (l2.length : Int) := by omega
      have exy := xor_bytes x y
      have hsucc : pops l1 l2 (k + 1) = q + Lib.onesCount (x ^^^ y).toNat := by rw [pops, ← HQ.out, hx, hy]
      obtain ⟨z, hz⟩ : ∃ z, z = x ^^^ y := ⟨_, rfl⟩
      rw [← hz] at exy hsucc
      have h8 := Lib.onesCount_le8 ⟨z.toNat, z.toNat_lt⟩
      simp only at h8
      obtain ⟨r, hr⟩ : ∃ r, r = q + Lib.onesCount z.toNat := ⟨_, rfl⟩
      have hrl : r ≤ q + 8 := by omega
      have HR := Lib.hid hr
      have HS := Lib.hid (hsucc.trans hr.symm)
      have HKR := Lib.hid hkr
      clear hx hy hr1 hr2 hz hr hsucc h8 hkr
      go_wp2_with fail
      go_quiet (fail)
      clear exy e1 e2
      go_wp2_with fail
      obtain ⟨w7, hw7⟩ : ∃ w7 : World, w7 = wr.drew := ⟨_, rfl⟩
      go_loopw [5, 7] (fun s xx wx => ∃ (n : Nat) (u : UInt8), n + Lib.onesCount u.toNat = r ∧ s = .int .i64 n ∧ xx = .int .u8 (u.toNat : Int) ∧ Keeps [] w wx) (fun _ xx _ => (intOf xx).toNat)
      case atStart => exact ⟨q, z, HR.out.symm, rfl, rfl, HKR.out.drewN _⟩
      case round =>
        obtain ⟨n, u, hnu, rfl, rfl, hkx⟩ := hrel
        have HKX := Lib.hid hkx
        have hul := u.toNat_lt
        clear hkx
        by_cases hu : 0 < u.toNat
        · obtain ⟨u2, hu1, hu2, hu3⟩ := less_one u hu
          have s1 : IntKind.u8.wrap ((u.toNat : Int) - 1) = (u.toNat : Int) - 1 := by rw [IntKind.wrap_u8]; omega
          have s2 : (0 : Int) < (u.toNat : Int) := by omega
          have hnu2 : n + 1 + Lib.onesCount u2.toNat = r := by omega
          have hn : n + 1 ≤ r := by omega
          have HN := Lib.hid hnu2
          clear hnu hu2 hnu2
          go_wp2_with fail
          go_roundw
          case rel => exact ⟨n + 1, u2, HN.out, by go_num, by go_num, HKX.out⟩
          case measure => simp [intOf]; omega
        · have s2 : ¬ (0 : Int) < (u.toNat : Int) := by omega
          have hu0 : u.toNat = 0 := by omega
          have hn : n = r := by
            rw [hu0] at hnu
            have : Lib.onesCount 0 = 0 := by decide
            omega
          have HN := Lib.hid hn
          clear hnu hn hu0
          go_wp2_with fail
          go_roundw
          case rel => exact ⟨k + 1, by omega, by rw [HS.out, ← HN.out], by go_num, HKX.out⟩
          case measure => simp [intOf]; omega
    · have e : k = l1.length := by omega
      subst e
      go_wp2_with fail
      go_ret
      refine ⟨?_, hkr⟩
      rw [HQ.out, HM.out]
      rfl

end Go.Proofs.Ytbjffjplpnnhoaa
