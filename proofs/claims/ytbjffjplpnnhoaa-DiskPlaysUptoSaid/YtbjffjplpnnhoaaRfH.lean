/-
  ledgerref4: New, Load, turned, torn.
-/
import Derived.Test.YtbjffjplpnnhoaaRfG
import Derived.Test.YtbjffjplpnnhoaaFlB
namespace Go.Proofs.Ytbjffjplpnnhoaa
set_option linter.unusedVariables false
set_option linter.unusedSimpArgs false
open Go.RowKit

def R.new (base : List UInt8) : R := ⟨base, [], 0, false, 0, 0⟩
theorem built_ref (l : List UInt8) (a : Option Addr) (n c : Nat) : Try.prog.built 108 [(0, .slice a n c)] = some (rCells (R.new l) (.slice a n c) (.slice none 0 0)) := by kernel_rfl
theorem rCells_size (r : R) (bv lv : Value) : (rCells r bv lv).size = 6 := rfl
theorem ref_new {w : World} {bv : Value} {base : List UInt8} (hb : OwnB w bv base) :
    RefIn (w.alloc (.cells (rCells (R.new base) bv (.slice none 0 0)) 108 (0, 0))) w.heap.size (R.new base) bv (.slice none 0 0) [] := by
  refine ⟨heap_new_at rfl, ownsRow_keep hb (fun k hk => heap_old_at (World.ownsRow.lt hb k hk).2), World.ownsRow_nil _ _ _ _, rfl, fun i e v h => by simp [R.new] at h, by simp, by simp [Value.ownBlock], ⟨fun e => ?_, by simp⟩, by simp [R.new], by simp [R.new]⟩
  have := (World.ownsRow.lt hb _ e).2
  omega
set_option maxRecDepth 100000 in
theorem rfNew_no {w : World} (n : Int) (h : n < 3 ∨ 4096 < n) :
    Calls Try.prog 39 #[.int .i64 n] w fun e w' => e = .returned (.tuple #[.pointer none, .int .i64 40]) ∧ w = w' := by
  rcases h with h | h
  · go_enter Try.func39, Try.ntmps39
    go_wp2_with fail
    go_ret2
    exact ⟨rfl, rfl⟩
  · have h' : ¬ n < 3 := by omega
    go_enter Try.func39, Try.ntmps39
    go_wp2_with fail
    go_ret2
    exact ⟨rfl, rfl⟩
set_option maxRecDepth 100000 in
theorem rfNew_yes {w : World} (n : Nat) (h3 : 3 ≤ n) (h4 : n ≤ 4096) :
    Calls Try.prog 39 #[.int .i64 n] w fun e w' => ∃ b, e = .returned (.tuple #[.pointer (some ⟨b, 0, none⟩), .int .i64 0]) ∧ Keeps [] w w' ∧ ∃ F, RefAt w' b (R.new (List.replicate (256 * n) 0)) F ∧ From w [] F := by
  have n3 : ¬ (n : Int) < 3 := by omega
  have n4 : ¬ (4096 : Int) < (n : Int) := by omega
  have hmk := make_bytes w (256 * n) (by omega)
  have hown := own_made w (256 * n) (by omega)
  obtain ⟨Z, hZ⟩ : ∃ Z, Z = List.replicate (256 * n) (0 : UInt8) := ⟨_, rfl⟩
  have hzl : Z.length = 256 * n := by rw [hZ]; simp
  rw [← hZ] at hmk hown ⊢
  obtain ⟨w1, hw1⟩ : ∃ w1, w1 = w.alloc (.cells (Z.map B).toArray 5 (0, 0)) := ⟨_, rfl⟩
  rw [← hw1] at hmk hown
  have hs1 : w1.heap.size = w.heap.size + 1 := by rw [hw1]; simp
  have hk1 : Keeps [] w w1 := by rw [hw1]; exact (Keeps.refl _ _).alloc _
  rw [show ((256 * n : Nat) : Int) = (n : Int) * 256 from by omega] at hmk
  have hbd := fun w => run_build (P := Try.prog) w _ _ _ (built_ref Z (some ⟨w1.heap.size - 1, 0, none⟩) (256 * n) (256 * n))
  rw [show w1.heap.size - 1 = w.heap.size from by omega] at hbd
  have hrn := ref_new hown
  obtain ⟨RC, hRC⟩ : ∃ RC, RC = rCells (R.new Z) (.slice (some ⟨w.heap.size, 0, none⟩) (256 * n) (256 * n)) (.slice none 0 0) := ⟨_, rfl⟩
  rw [← hRC] at hbd hrn
  have HMK := Lib.hid hmk
  have HBD := Lib.hid hbd
  have HRN := Lib.hid hrn
  have HK1 := Lib.hid hk1
  have HS1 := Lib.hid hs1
  have mw : IntKind.i64.wrap ((n : Int) * 256) = (n : Int) * 256 := IntWalk.i64_in _ (by omega)
  clear hmk hbd hrn hk1 hRC hw1 hZ hzl hown hs1
  go_enter Try.func39, Try.ntmps39
  go_wp2_with (first | (refine wl_makeSlice rfl 29 (.tmp 11) (.tmp 11) rfl ?_; refine ⟨_, _, HMK.out, ?_⟩; try simp only [Act.put, List.setIfInBounds_toArray, List.set_cons_zero, List.set_cons_succ, List.getElem_toArray, List.getElem_cons_zero, List.getElem_cons_succ]) | (refine wl_build rfl 108 #[(0, .tmp 12)] #[(0, .slice (some ⟨w.heap.size, 0, none⟩) (256 * n) (256 * n))] rfl (by simp [Act.eval]) ?_; refine ⟨_, _, HBD.out _, ?_⟩; try simp only [Act.put, List.setIfInBounds_toArray, List.set_cons_zero, List.set_cons_succ, List.getElem_toArray, List.getElem_cons_zero, List.getElem_cons_succ]))
  go_ret2
  refine ⟨w1.heap.size, rfl, HK1.out.alloc _, _, ⟨_, _, _, HRN.out, rfl⟩, fun k hk => .inr ?_⟩
  simp only [rFoot, List.mem_cons, List.mem_append, List.mem_flatMap, Option.mem_toList, List.not_mem_nil, false_and, exists_false, or_false] at hk
  rcases hk with rfl | hk | hk
  · exact HK1.out.size
  · simp [Value.ownBlock] at hk
  · have e : w.heap.size = k := by simpa [Value.ownBlock] using hk
    omega
set_option maxRecDepth 100000 in
theorem rfLoad_size {w : World} {a : Option Addr} {len cap : Nat} (h : len % 256 ≠ 0) (hm : len ≤ 9223372036854775807) :
    Calls Try.prog 44 #[.slice a len cap] w fun e w' => e = .returned (.tuple #[.pointer none, .int .i64 42]) ∧ w = w' := by
  have hd : ((len : Int).tmod 256 != 0) = true := by rw [Int.tmod_eq_emod_of_nonneg (by omega)]; simp; omega
  have hd2 : ((len : Int) % 256 != 0) = true := by simp; omega
  go_enter Try.func44, Try.ntmps44
  go_wp2_with fail
  go_ret2
  exact ⟨rfl, rfl⟩
set_option maxRecDepth 100000 in
theorem rfLoad_pages {w : World} {a : Option Addr} {cap : Nat} (n : Nat) (hm : 256 * n ≤ 9223372036854775807) (hn : n < 3 ∨ 4096 < n) :
    Calls Try.prog 44 #[.slice a (256 * n) cap] w fun e w' => e = .returned (.tuple #[.pointer none, .int .i64 40]) ∧ w = w' := by
  have hd : ((256 * (n : Int)).tmod 256 != 0) = false := by rw [Int.tmod_eq_emod_of_nonneg (by omega)]; simp
  have hd2 : ((256 * (n : Int)) % 256 != 0) = false := by simp
  have hq : (256 * (n : Int)).tdiv 256 = (n : Int) := by rw [Int.tdiv_eq_ediv_of_nonneg (by omega)]; omega
  have hq2 : (256 * (n : Int)) / 256 = (n : Int) := by omega
  rcases hn with hn | hn
  · have h1 : (n : Int) < 3 := by omega
    go_enter Try.func44, Try.ntmps44
    go_wp2_with fail
    go_ret2
    exact ⟨rfl, rfl⟩
  · have h1 : ¬ (n : Int) < 3 := by omega
    have h2 : (4096 : Int) < (n : Int) := by omega
    go_enter Try.func44, Try.ntmps44
    go_wp2_with fail
    go_ret2
    exact ⟨rfl, rfl⟩
set_option maxRecDepth 100000 in
theorem rfLoad_yes {w : World} {v : Value} {img : List UInt8} (n : Nat) (hv : BytesAt w v img) (hl : img.length = 256 * n) (h3 : 3 ≤ n) (h4 : n ≤ 4096) :
    Calls Try.prog 44 #[v] w fun e w' => ∃ b, e = .returned (.tuple #[.pointer (some ⟨b, 0, none⟩), .int .i64 0]) ∧ Keeps [] w w' ∧ ∃ F, RefAt w' b (R.new img) F ∧ From w [] F := by
  have hd : ((256 * (n : Int)).tmod 256 != 0) = false := by rw [Int.tmod_eq_emod_of_nonneg (by omega)]; simp
  have hd2 : ((256 * (n : Int)) % 256 != 0) = false := by simp
  have hq : (256 * (n : Int)).tdiv 256 = (n : Int) := by rw [Int.tdiv_eq_ediv_of_nonneg (by omega)]; omega
  have hq2 : (256 * (n : Int)) / 256 = (n : Int) := by omega
  have h1 : ¬ (n : Int) < 3 := by omega
  have h2 : ¬ (4096 : Int) < (n : Int) := by omega
  have cC := rfCopied_any hv (by omega)
  obtain ⟨a, c, rfl, hc, hm⟩ := hv.form
  rw [hl] at cC ⊢
  have CC := Lib.hid cC
  clear cC hl hv
  go_enter Try.func44, Try.ntmps44
  go_wp2_with fail
  refine CC.out.mono ?_
  rintro e w1 ⟨da, dc, rfl, hO, hfr, hk⟩
  have hbd := fun w => run_build (P := Try.prog) w _ _ _ (built_ref img da (256 * n) dc)
  have hrn := ref_new hO
  obtain ⟨RC, hRC⟩ : ∃ RC, RC = rCells (R.new img) (.slice da (256 * n) dc) (.slice none 0 0) := ⟨_, rfl⟩
  rw [← hRC] at hbd hrn
  have HBD := Lib.hid hbd
  have HRN := Lib.hid hrn
  have HFR := Lib.hid hfr
  have HK := Lib.hid hk
  clear hbd hrn hfr hk hRC hO
  go_wp2_with (refine wl_build rfl 108 #[(0, .tmp 19)] #[(0, .slice da (256 * n) dc)] rfl (by simp [Act.eval]) ?_; refine ⟨_, _, HBD.out _, ?_⟩; try simp only [Act.put, List.setIfInBounds_toArray, List.set_cons_zero, List.set_cons_succ, List.getElem_toArray, List.getElem_cons_zero, List.getElem_cons_succ])
  go_ret2
  refine ⟨w1.heap.size, rfl, HK.out.alloc _, _, ⟨_, _, _, HRN.out, rfl⟩, fun k hk => .inr ?_⟩
  simp only [rFoot, List.mem_cons, List.mem_append, List.mem_flatMap, Option.mem_toList, List.not_mem_nil, false_and, exists_false, or_false] at hk
  rcases hk with rfl | hk | hk
  · exact HK.out.size
  · simp [Value.ownBlock] at hk
  · exact HFR.out k hk
end Go.Proofs.Ytbjffjplpnnhoaa

/-
  ledgerref4: turned, torn.
-/
namespace Go.Proofs.Ytbjffjplpnnhoaa
set_option linter.unusedVariables false
set_option linter.unusedSimpArgs false
open Go.RowKit

set_option maxRecDepth 100000 in
set_option maxHeartbeats 1600000 in
theorem rfTurned_any {w : World} {g cap : Nat} {l : List UInt8} (hO : OwnB w (.slice (some ⟨g, 0, none⟩) 256 cap) l) (hl : l.length = 256) (bit p : Nat) (hb : bit < 2048) (hp : p < 4294967296) :
    Calls Try.prog 68 #[.slice (some ⟨g, 0, none⟩) 256 cap, .int .i64 bit, .int .u32 p] w fun e w' => e = .returned (.slice (some ⟨g, 0, none⟩) 256 cap) ∧ OwnB w' (.slice (some ⟨g, 0, none⟩) 256 cap) (flipK l bit p (min 32 (2048 - bit))) ∧ Keeps [g] w w' := by
  have HO := Lib.hid hO
  have HL := Lib.hid hl
  clear hO hl
  go_enter Try.func68, Try.ntmps68
  go_wp2_with fail
  go_loopw [7] (fun i wr => ∃ k : Nat, k ≤ 32 ∧ i = .int .i64 k ∧ OwnB wr (.slice (some ⟨g, 0, none⟩) 256 cap) (flipK l bit p (min k (2048 - bit))) ∧ Keeps [g] w wr) (fun i _ => 32 - (intOf i).toNat)
  case atStart => exact ⟨0, by omega, rfl, by rw [Nat.zero_min]; exact HO.out, Keeps.refl _ _⟩
  case round =>
    obtain ⟨k, hk, rfl, hown, hkr⟩ := hrel
    have HOW := Lib.hid hown
    have HKR := Lib.hid hkr
    clear hown hkr
    by_cases hk3 : k < 32
    · have k1 : (k : Int) < 32 := by omega
      have k0 : (0 : Int) ≤ (k : Int) := by omega
      have hdl : p / 2 ^ k < 4294967296 := Nat.lt_of_le_of_lt (Nat.div_le_self _ _) hp
      obtain ⟨R, hR⟩ : ∃ R, R = p / 2 ^ k := ⟨_, rfl⟩
      have hdv : (p : Int) / 2 ^ k = (R : Int) := by rw [hR]; simp
      have hand := and32_one R (by rw [hR]; exact hdl)
      have hb2 := bit_of p k
      rw [← hR] at hb2
      rw [hb2] at hand
      have k3 : IntKind.u64.wrap (k : Int) = (k : Int) := by rw [IntKind.wrap_u64]; omega
      have w1' : IntKind.i64.wrap ((bit : Int) + (k : Int)) = (bit : Int) + (k : Int) := IntWalk.i64_in _ (by omega)
      clear hb2 hR hdl
      by_cases htb : p.testBit k = true
      · rw [if_pos htb] at hand
        by_cases hat : bit + k < 2048
        · have hm1 : min k (2048 - bit) = k := by omega
          have hm2 : min (k + 1) (2048 - bit) = k + 1 := by omega
          obtain ⟨at', hat'⟩ : ∃ x, x = bit + k := ⟨_, rfl⟩
          obtain ⟨J, hJ⟩ : ∃ J, J = at' / 8 := ⟨_, rfl⟩
          obtain ⟨T, hT⟩ : ∃ T, T = at' % 8 := ⟨_, rfl⟩
          have hJl : J < 256 := by omega
          have hTl : T < 8 := by omega
          have hll : (flipK l bit p k).length = 256 := by rw [flipK_length]; exact HL.out
          have hown := HOW.out
          rw [hm1] at hown
          have hcell := hown.cell J (by rw [hll]; exact hJl)
          have hfr := hown.free J
          obtain ⟨old, hold⟩ : ∃ old, old = (flipK l bit p k)[J]'(by rw [hll]; exact hJl) := ⟨_, rfl⟩
          rw [← hold] at hcell
          have hcell2 : wr.cell? ⟨g, J, none⟩ = some (.int .u8 old.toNat) := hcell
          have hset := hown.set J (by rw [hll]; exact hJl) (old ^^^ vbit true T)
          have hstep : flipK l bit p (k + 1) = (flipK l bit p k).set J (old ^^^ vbit true T) := by
            rw [flipK, ← hat', ← hJ, ← hT, htb, List.getD_eq_getElem?_getD, List.getElem?_eq_getElem (by rw [hll]; exact hJl), Option.getD_some, ← hold]
          have e3 := shl_bit true hTl
          have e5 : IntKind.u8.wrap (1 * 2 ^ T) = ((vbit true T).toNat : Int) := e3
          have e6 : IntKind.u8.wrap (2 ^ T) = ((vbit true T).toNat : Int) := by rw [← e5, Int.one_mul]
          obtain ⟨vb, hvb⟩ : ∃ vb, vb = vbit true T := ⟨_, rfl⟩
          rw [← hvb] at hset hstep e5 e6
          have e4 := xor_bytes old vb
          obtain ⟨nw, hnw⟩ : ∃ nw, nw = old ^^^ vb := ⟨_, rfl⟩
          rw [← hnw] at hset hstep e4
          unfold B at hset
          have a3' : (bit : Int) + (k : Int) = (at' : Int) := by omega
          have a4' : IntKind.i64.wrap (at' : Int) = (at' : Int) := IntWalk.i64_in _ (by omega)
          have a5' : (at' : Int) < 2048 := by omega
          have d1 : (at' : Int) / 8 = (J : Int) := by omega
          have d2' : (at' : Int) % 8 = (T : Int) := by omega
          have d3' : (at' : Int).tdiv 8 = (J : Int) := by rw [Int.tdiv_eq_ediv_of_nonneg (by omega)]; omega
          have d4 : (at' : Int).tmod 8 = (T : Int) := by rw [Int.tmod_eq_emod_of_nonneg (by omega)]; omega
          have d5 : IntKind.i64.wrap (J : Int) = (J : Int) := IntWalk.i64_in _ (by omega)
          have j0 : (0 : Int) ≤ (J : Int) := by omega
          have j1 : (J : Int) < 256 := by omega
          have t1 : (0 : Int) ≤ (T : Int) := by omega
          have t2 : IntKind.u64.wrap (T : Int) = (T : Int) := by rw [IntKind.wrap_u64]; omega
          have HST := Lib.hid hstep
          have HSE := Lib.hid hset
          have HM2 := Lib.hid hm2
          clear hm1 hm2 hold hset hstep e3 hvb hnw hown hcell hll hat' hJ hT htb
          go_wp2_with fail
          go_roundw
          case rel => exact ⟨k + 1, by omega, by go_num, by rw [HM2.out, HST.out]; exact HSE.out, HKR.out.setCell (.inl (by simp)) _⟩
          case measure => simp [intOf]; omega
        · have hm1 : min (k + 1) (2048 - bit) = min k (2048 - bit) := by omega
          have HM1 := Lib.hid hm1
          have a5' : ¬ (bit : Int) + (k : Int) < 2048 := by omega
          clear hm1 htb
          go_wp2_with fail
          go_roundw
          case rel => exact ⟨k + 1, by omega, by go_num, by rw [HM1.out]; exact HOW.out, HKR.out⟩
          case measure => simp [intOf]; omega
      · rw [if_neg htb] at hand
        have hsame : flipK l bit p (min (k + 1) (2048 - bit)) = flipK l bit p (min k (2048 - bit)) := by
          refine (flip_more _ _ _ (by omega) (by rw [HL.out]; omega) fun j h1 h2 => ?_).symm
          have e : j = k := by omega
          rw [e]
          simpa using htb
        have HSM := Lib.hid hsame
        clear hsame htb
        go_wp2_with fail
        go_roundw
        case rel => exact ⟨k + 1, by omega, by go_num, by rw [HSM.out]; exact HOW.out, HKR.out⟩
        case measure => simp [intOf]; omega
    · have e : k = 32 := by omega
      subst e
      go_wp2_with fail
      go_ret
      exact ⟨rfl, HOW.out, HKR.out⟩
set_option maxRecDepth 100000 in
set_option maxHeartbeats 1600000 in
theorem rfTorn_any {w : World} {g cap : Nat} {l data : List UInt8} (hO : OwnB w (.slice (some ⟨g, 0, none⟩) 256 cap) l) (hl : l.length = 256) {g2 o2 c2 : Nat} (hg2 : g2 < w.heap.size) (hr2 : w.rangeAt g2 o2 (data.map B)) (hdl : data.length = 256) (hne : g2 ≠ g) (f : UInt8) :
    Calls Try.prog 67 #[.slice (some ⟨g, 0, none⟩) 256 cap, .slice (some ⟨g2, o2, none⟩) 256 c2, .int .u8 f.toNat] w fun e w' => e = .returned (.slice (some ⟨g, 0, none⟩) 256 cap) ∧ OwnB w' (.slice (some ⟨g, 0, none⟩) 256 cap) (tearRow l 0 data f 256) ∧ Keeps [g] w w' := by
  have HO := Lib.hid hO
  have HL := Lib.hid hl
  have HR := Lib.hid hr2
  have HDL := Lib.hid hdl
  clear hO hl hr2 hdl
  go_enter Try.func67, Try.ntmps67
  go_wp2_with fail
  go_loopw [7] (fun i wr => ∃ k : Nat, k ≤ 256 ∧ i = .int .i64 k ∧ OwnB wr (.slice (some ⟨g, 0, none⟩) 256 cap) (tearRow l 0 data f k) ∧ Keeps [g] w wr) (fun i _ => 256 - (intOf i).toNat)
  case atStart => exact ⟨0, by omega, rfl, by simpa [tearRow] using HO.out, Keeps.refl _ _⟩
  case round =>
    obtain ⟨k, hk, rfl, hown, hkr⟩ := hrel
    have HOW := Lib.hid hown
    have HKR := Lib.hid hkr
    by_cases hk3 : k < 256
    · have k1 : (k : Int) < 256 := by omega
      have k0 : (0 : Int) ≤ (k : Int) := by omega
      obtain ⟨S, hS⟩ : ∃ S, S = k / 64 := ⟨_, rfl⟩
      have hSl : S < 4 := by omega
      have d1 : (k : Int) / 64 = (S : Int) := by omega
      have d2 : (k : Int).tdiv 64 = (S : Int) := by rw [Int.tdiv_eq_ediv_of_nonneg (by omega)]; omega
      have d3 : IntKind.i64.wrap (S : Int) = (S : Int) := IntWalk.i64_in _ (by omega)
      have d4 : IntKind.u64.wrap (S : Int) = (S : Int) := by rw [IntKind.wrap_u64]; omega
      have s0 : (0 : Int) ≤ (S : Int) := by omega
      have hts := tearRow_succ l 0 data f k
      rw [tearAt, ← hS] at hts
      cases hbit0 : fateBit f S with
      | false =>
        have hbit : (bits BinOp.and IntKind.u8 ((f.toNat : Int) / 2 ^ S) 1 == 1) = false := hbit0
        rw [hbit0, if_neg (by simp)] at hts
        have HTS := Lib.hid hts
        clear hts hbit0 hS hown hkr
        go_wp2_with fail
        go_roundw
        case rel => exact ⟨k + 1, by omega, by go_num, by rw [HTS.out]; exact HOW.out, HKR.out⟩
        case measure => simp [intOf]; omega
      | true =>
        have hbit : (bits BinOp.and IntKind.u8 ((f.toNat : Int) / 2 ^ S) 1 == 1) = true := hbit0
        rw [hbit0, if_pos rfl, Nat.zero_mul, Nat.zero_add] at hts
        have hkl : k < (tearRow l 0 data f k).length := by rw [tearRow_length, HL.out]; exact hk3
        have hkd : k < data.length := by rw [HDL.out]; exact hk3
        have f1 := hown.cell k hkl
        have f2 := hown.free k
        obtain ⟨old, hold⟩ : ∃ old, old = B (tearRow l 0 data f k)[k] := ⟨_, rfl⟩
        rw [← hold] at f1
        obtain ⟨y, hy⟩ : ∃ y, y = data.getD k 0 := ⟨_, rfl⟩
        have f3 := range_byte HR.out (w' := wr) (hkr.block g2 hg2 (by simpa using hne)) (k := k) (x := y) (by rw [hy, List.getD_eq_getElem?_getD, List.getElem?_eq_getElem hkd]; rfl)
        have hset := hown.set k hkl y
        rw [← hy] at hts
        rw [← hts] at hset
        unfold B at hset
        have HSE := Lib.hid hset
        clear hts hbit0 hS hown hkr hold hy hset hkl hkd
        go_wp2_with fail
        go_roundw
        case rel => exact ⟨k + 1, by omega, by go_num, HSE.out, HKR.out.setCell (.inl (by simp)) _⟩
        case measure => simp [intOf]; omega
    · have e : k = 256 := by omega
      subst e
      go_wp2_with fail
      go_ret
      exact ⟨rfl, HOW.out, HKR.out⟩
end Go.Proofs.Ytbjffjplpnnhoaa

/-
  The plain law of the two disks: what one page is behind a sync, a crash, a flip.
-/
namespace Go.Proofs.Ytbjffjplpnnhoaa
set_option linter.unusedVariables false
set_option linter.unusedSimpArgs false
open Go.RowKit

/-- The open writes of a page, with their places, the first place being s. -/
def mineOf (p : Nat) : List (Nat × List UInt8) → Nat → List (Nat × List UInt8)
  | [], _ => []
  | x :: q, s => if x.1 = p then (s, x.2) :: mineOf p q (s + 1) else mineOf p q (s + 1)
theorem mineOf_snoc (p : Nat) : ∀ (q : List (Nat × List UInt8)) (s : Nat) (x : Nat × List UInt8), mineOf p (q ++ [x]) s = if x.1 = p then mineOf p q s ++ [(s + q.length, x.2)] else mineOf p q s
  | [], s, x => by by_cases h : x.1 = p <;> simp [mineOf, h]
  | y :: q, s, x => by
    have ih := mineOf_snoc p q (s + 1) x
    simp only [List.cons_append, mineOf, ih, List.length_cons]
    by_cases h : x.1 = p <;> by_cases h2 : y.1 = p <;> simp [h, h2] <;> omega
theorem page_sync {n p : Nat} (hp : p < n) : ∀ (q : List (Nat × List UInt8)) (s : Nat) {img : List UInt8}, img.length = 256 * n → (∀ x ∈ q, x.1 < n ∧ x.2.length = 256) → pg (synced img q) p = (mineOf p q s).foldl (fun _ x => x.2) (pg img p)
  | [], s, _, _, _ => rfl
  | x :: q, s, img, hl, hq => by
    have h1 := hq x (by simp)
    have hfit : x.1 * 256 + x.2.length ≤ img.length := by omega
    rw [synced_cons, page_sync hp q (s + 1) (by rw [setPage_length hfit]; exact hl) (fun y hy => hq y (by simp [hy])), mineOf]
    by_cases h : x.1 = p
    · subst h
      have e : pg (setPage img x.1 x.2) x.1 = x.2 := pg_setPage_same h1.2 (by omega)
      rw [if_pos rfl, List.foldl_cons, e]
    · rw [if_neg h, show pg (setPage img x.1 x.2) p = pg img p from pg_setAt hfit (by omega)]
set_option maxRecDepth 10000 in
theorem pg_setAt_in {img l : List UInt8} {p o : Nat} (h : p * 256 + 256 ≤ img.length) (ho : o + l.length ≤ 256) : pg (setAt img (p * 256 + o) l) p = setAt (pg img p) o l := by
  have h5 : p * 256 + o + l.length ≤ img.length := by omega
  have hpl : (pg img p).length = 256 := by unfold pg; rw [List.length_take, List.length_drop]; omega
  have h6 : o + l.length ≤ (pg img p).length := by omega
  apply List.ext_getElem?
  intro x
  have e1 := setAt_get img (p * 256 + o) l h5 (p * 256 + x)
  have e2 := setAt_get (pg img p) o l h6 x
  rw [pg_get, e1, e2]
  by_cases hx : x < 256
  · rw [if_pos hx]
    by_cases h1 : o ≤ x ∧ x < o + l.length
    · rw [if_pos (by omega), if_pos h1, show p * 256 + x - (p * 256 + o) = x - o from by omega]
    · rw [if_neg (by omega), if_neg h1, pg_get, if_pos hx]
  · rw [if_neg hx, if_neg (by omega), pg_get, if_neg hx]
theorem page_sects {img data : List UInt8} {p : Nat} {f : UInt8} (h : p * 256 + 256 ≤ img.length) (hd : data.length = 256) : ∀ k, k ≤ 4 → pg (sects img p data f k) p = sects (pg img p) 0 data f k := by
  have hpl : (pg img p).length = 256 := by unfold pg; rw [List.length_take, List.length_drop]; omega
  intro k
  induction k with
  | zero => intro _; rfl
  | succ k ih =>
    intro hk
    rw [sects_succ, sects_succ, ← ih (by omega)]
    have hsl := sects_length (img := img) (p := p) (data := data) (f := f) (k := k) (by omega) (by omega)
    unfold sect
    split
    · have hdl : ((data.drop (k * 64)).take 64).length = 64 := by rw [List.length_take, List.length_drop]; omega
      rw [pg_setAt_in (by omega) (by omega), Nat.zero_mul, Nat.zero_add]
    · rfl
theorem page_crash {n p : Nat} (hp : p < n) (F : List UInt8) : ∀ (q : List (Nat × List UInt8)) (s : Nat) {img : List UInt8}, img.length = 256 * n → (∀ x ∈ q, x.1 < n ∧ x.2.length = 256) →
    pg (crashed img q (F.drop s)) p = (mineOf p q s).foldl (fun now x => if x.1 < F.length then tearRow now 0 x.2 (F.getD x.1 0) 256 else now) (pg img p)
  | [], s, img, _, _ => by cases F.drop s <;> rfl
  | x :: q, s, img, hl, hq => by
    have h1 := hq x (by simp)
    by_cases hs : s < F.length
    · have e : F.drop s = F[s] :: F.drop (s + 1) := List.drop_eq_getElem_cons hs
      rw [e]
      show pg (crashed (sects img x.1 x.2 F[s] 4) q (F.drop (s + 1))) p = _
      have hsl := sects_length (img := img) (p := x.1) (data := x.2) (f := F[s]) (k := 4) (by omega) (by omega)
      rw [page_crash hp F q (s + 1) (by rw [hsl]; exact hl) (fun y hy => hq y (by simp [hy])), mineOf]
      by_cases h : x.1 = p
      · have hpl : (pg img p).length = 256 := pg_length hl hp
        rw [if_pos h, List.foldl_cons, if_pos hs, h, page_sects (by omega) h1.2 4 (by omega), tearRow_all _ _ _ _ (by omega) h1.2, List.getD_eq_getElem?_getD, List.getElem?_eq_getElem hs]
        rfl
      · rw [if_neg h, pg_sects hl h1.1 h1.2 h 4 (by omega)]
    · have e : F.drop s = [] := List.drop_eq_nil_of_le (by omega)
      have none : ∀ (q : List (Nat × List UInt8)) (t : Nat) (a : List UInt8), s ≤ t → (mineOf p q t).foldl (fun now x => if x.1 < F.length then tearRow now 0 x.2 (F.getD x.1 0) 256 else now) a = a := by
        intro q
        induction q with
        | nil => intro t a _; rfl
        | cons y q ih =>
          intro t a ht
          rw [mineOf]
          split
          · rw [List.foldl_cons, if_neg (by simp only; omega)]
            exact ih (t + 1) a (by omega)
          · exact ih (t + 1) a (by omega)
      rw [e, none _ s _ (Nat.le_refl _)]
      rfl
theorem pg_set_in {img : List UInt8} {p o : Nat} (h : p * 256 + 256 ≤ img.length) (ho : o < 256) (y : UInt8) : pg (img.set (p * 256 + o) y) p = (pg img p).set o y := by
  rw [← setAt_one img (by omega) y, pg_setAt_in h (by simp; omega), setAt_one]
  unfold pg
  rw [List.length_take, List.length_drop]
  omega
theorem page_flip {n p P bit pat : Nat} (hp : p < n) {img : List UInt8} (hl : img.length = 256 * n) (hP : P < n) : ∀ k, bit + k ≤ 2048 → pg (flipK img (2048 * P + bit) pat k) p = if P = p then flipK (pg img p) bit pat k else pg img p := by
  intro k
  induction k with
  | zero => intro _; by_cases h : P = p <;> simp [flipK, h]
  | succ k ih =>
    intro hk
    have ih' := ih (by omega)
    have hfl := flipK_length img (2048 * P + bit) pat k
    have hJ : (bit + k) / 8 < 256 := by omega
    have e1 : (2048 * P + bit + k) / 8 = P * 256 + (bit + k) / 8 := by omega
    have e2 : (2048 * P + bit + k) % 8 = (bit + k) % 8 := by omega
    rw [flipK, e1, e2]
    by_cases h : P = p
    · rw [if_pos h] at ih' ⊢
      subst h
      rw [pg_set_in (by omega) hJ, flipK, ← ih']
      congr 2
      have hpl : (pg (flipK img (2048 * P + bit) pat k) P).length = 256 := pg_length (by rw [hfl]; exact hl) hp
      have hg := pg_get (flipK img (2048 * P + bit) pat k) P ((bit + k) / 8)
      rw [if_pos hJ] at hg
      rw [List.getD_eq_getElem?_getD, List.getD_eq_getElem?_getD, hg]
    · rw [if_neg h] at ih' ⊢
      rw [← ih', ← setAt_one _ (by omega)]
      exact pg_setAt (by simp; omega) (by simp; omega)
end Go.Proofs.Ytbjffjplpnnhoaa

/-
  The play of a log, and the disk that goes along with it.
-/
namespace Go.Proofs.Ytbjffjplpnnhoaa
set_option linter.unusedVariables false
set_option linter.unusedSimpArgs false
open Go.RowKit

/-- What a log makes: the synced bytes and the open writes. -/
structure Pl where
  img : List UInt8
  q : List (Nat × List UInt8)
def Pl.step (s : Pl) (e : Ev) : Pl :=
  if e.kind = 1 then { s with q := s.q ++ [(e.page, e.data)] }
  else if e.kind = 2 then ⟨synced s.img s.q, []⟩
  else if e.kind = 3 then ⟨crashed s.img s.q e.data, []⟩
  else ⟨flipK s.img (2048 * e.page + e.bit) e.pat (min 32 (2048 - e.bit)), s.q⟩
def R.play (r : R) : Pl := r.log.foldl Pl.step ⟨r.base, []⟩
/-- An event of a disk of n pages. -/
def Ev.fits (n : Nat) (e : Ev) : Prop := (e.kind = 1 ∧ e.page < n ∧ e.data.length = 256) ∨ e.kind = 2 ∨ (e.kind = 3 ∧ e.data.length ≤ 16777216) ∨ (e.kind = 4 ∧ e.page < n ∧ e.bit < 2048 ∧ e.pat < 4294967296)
theorem Ev.fits.kinds {n : Nat} {e : Ev} (h : e.fits n) : e.kind = 1 ∨ e.kind = 2 ∨ e.kind = 3 ∨ e.kind = 4 := by
  rcases h with h | h | h | h
  · exact .inl h.1
  · exact .inr (.inl h)
  · exact .inr (.inr (.inl h.1))
  · exact .inr (.inr (.inr h.1))
def Pl.fits (n : Nat) (s : Pl) : Prop := s.img.length = 256 * n ∧ ∀ x ∈ s.q, x.1 < n ∧ x.2.length = 256
theorem crashed_length {n : Nat} : ∀ (q : List (Nat × List UInt8)) (F : List UInt8) {img : List UInt8}, img.length = 256 * n → (∀ x ∈ q, x.1 < n ∧ x.2.length = 256) → (crashed img q F).length = 256 * n
  | [], _, _, h, _ => by simpa [crashed] using h
  | _ :: _, [], _, h, _ => by simpa [crashed] using h
  | x :: q, f :: F, img, h, hq => by
    have h1 := hq x (by simp)
    show (crashed (sects img x.1 x.2 f 4) q F).length = _
    exact crashed_length q F (by rw [sects_length (by omega) (by omega)]; exact h) (fun y hy => hq y (by simp [hy]))
theorem Pl.fits.step {n : Nat} {s : Pl} {e : Ev} (h : s.fits n) (he : e.fits n) : (s.step e).fits n := by
  obtain ⟨h1, h2⟩ := h
  unfold Pl.step
  rcases he with ⟨k, p, d⟩ | k | ⟨k, _⟩ | ⟨k, _⟩
  · rw [if_pos k]
    refine ⟨h1, fun x hx => ?_⟩
    rcases List.mem_append.1 hx with hx | hx
    · exact h2 x hx
    · rw [List.mem_singleton.1 hx]; exact ⟨p, d⟩
  · rw [if_neg (by omega), if_pos k]
    exact ⟨synced_length h1 h2, by simp⟩
  · rw [if_neg (by omega), if_neg (by omega), if_pos k]
    exact ⟨crashed_length _ _ h1 h2, by simp⟩
  · rw [if_neg (by omega), if_neg (by omega), if_neg (by omega)]
    exact ⟨by rw [flipK_length]; exact h1, h2⟩
theorem play_fits {n : Nat} (l : List Ev) : ∀ {s : Pl}, s.fits n → (∀ e ∈ l, e.fits n) → (l.foldl Pl.step s).fits n := by
  induction l with
  | nil => intro s h _; exact h
  | cons e l ih => intro s h hl; exact ih (h.step (hl e (by simp))) (fun x hx => hl x (by simp [hx]))
theorem play_open (l : List Ev) : ∀ (s : Pl), (∀ e ∈ l, e.kind = 1 ∨ e.kind = 2 ∨ e.kind = 3 ∨ e.kind = 4) →
    (l.foldl Pl.step s).q.length = l.foldl (fun n e => if e.kind = 1 then n + 1 else if e.kind = 2 ∨ e.kind = 3 then 0 else n) s.q.length := by
  induction l with
  | nil => intro s _; rfl
  | cons e l ih =>
    intro s hl
    have hk := hl e (by simp)
    rw [List.foldl_cons, List.foldl_cons, ih _ (fun x hx => hl x (by simp [hx]))]
    congr 1
    unfold Pl.step
    rcases hk with k | k | k | k
    · rw [if_pos k, if_pos k]; simp
    · rw [if_neg (by omega), if_pos k, if_neg (by omega), if_pos (by omega)]; rfl
    · rw [if_neg (by omega), if_neg (by omega), if_pos k, if_neg (by omega), if_pos (by omega)]; rfl
    · rw [if_neg (by omega), if_neg (by omega), if_neg (by omega), if_neg (by omega), if_neg (by omega)]
/-- The two disks tell the same. -/
structure Alike (d : D) (r : R) : Prop where
  img : d.img = r.play.img
  q : d.q = r.play.q
  n : r.base.length = 256 * d.n
  armed : d.armed = r.armed
  dead : d.dead = r.down
  epoch : d.epoch = r.ages
  reads : d.reads = r.seen
  evs : ∀ e ∈ r.log, e.fits d.n
theorem R.play_push (r : R) (e : Ev) : ({ r with log := r.log ++ [e] } : R).play = r.play.step e := by simp [R.play]
theorem Alike.openN {d : D} {r : R} (h : Alike d r) : openN r.log = d.q.length := by
  have := play_open r.log ⟨r.base, []⟩ (fun e he => (h.evs e he).kinds)
  rw [h.q]
  exact this.symm
theorem Alike.crash {d : D} {r : R} (h : Alike d r) {F : List UInt8} (hF : F.length ≤ 16777216) :
    Alike (d.crash F) { r with log := r.log ++ [⟨3, 0, 0, F, 0⟩], down := false, armed := 0, ages := wrap64 (r.ages + 1) } := by
  have hp : ({ r with log := r.log ++ [⟨3, 0, 0, F, 0⟩], down := false, armed := 0, ages := wrap64 (r.ages + 1) } : R).play = r.play.step ⟨3, 0, 0, F, 0⟩ := by simp [R.play]
  refine ⟨?_, ?_, h.n, rfl, rfl, ?_, h.reads, fun e he => ?_⟩
  · rw [hp]; show crashed d.img d.q F = _; rw [h.img, h.q]; rfl
  · rw [hp]; rfl
  · show wrap64 (d.epoch + 1) = _; rw [h.epoch]
  · rcases List.mem_append.1 he with he | he
    · exact h.evs e he
    · rw [List.mem_singleton.1 he]; exact .inr (.inr (.inl ⟨rfl, hF⟩))
theorem Alike.flip {d : D} {r : R} (h : Alike d r) {P Q p : Nat} (hP : P < d.n) (hQ : Q < 2048) (hp : p < 4294967296) :
    Alike { d with img := flipK d.img (2048 * P + Q) p (min 32 (2048 - Q)) } { r with log := r.log ++ [⟨4, P, Q, [], p⟩] } := by
  have hpl : ({ r with log := r.log ++ [⟨4, P, Q, [], p⟩] } : R).play = r.play.step ⟨4, P, Q, [], p⟩ := by simp [R.play]
  refine ⟨?_, ?_, h.n, h.armed, h.dead, h.epoch, h.reads, fun e he => ?_⟩
  · rw [hpl, h.img]; rfl
  · rw [hpl, h.q]; rfl
  · rcases List.mem_append.1 he with he | he
    · exact h.evs e he
    · rw [List.mem_singleton.1 he]; exact .inr (.inr (.inr ⟨rfl, hP, hQ, hp⟩))
theorem R.act_play (r : R) : r.act.play = r.play := by unfold R.act R.play; split <;> rfl
theorem Alike.act {d : D} {r : R} (h : Alike d r) (hd : d.dead = false) : Alike d.act r.act := by
  have hr := h.dead.symm.trans hd
  refine ⟨by rw [D.act_img, R.act_play]; exact h.img, by rw [D.act_q, R.act_play]; exact h.q, ?_, ?_, ?_, ?_, ?_, ?_⟩
  · rw [D.act_n, ← h.n]; unfold R.act; split <;> rfl
  · unfold D.act R.act
    rw [h.armed]
    split
    · exact h.armed
    · rfl
  · unfold D.act R.act
    rw [h.armed]
    split
    · exact h.dead
    · simp [hr]
  · rw [D.act_epoch, h.epoch]; unfold R.act; split <;> rfl
  · rw [D.act_reads, h.reads]; unfold R.act; split <;> rfl
  · intro e he
    rw [D.act_n]
    exact h.evs e (by unfold R.act at he; split at he <;> exact he)
theorem Alike.write {d : D} {r : R} (h : Alike d r) (hd : d.dead = false) {P : Nat} {data : List UInt8} (hP : P < d.n) (hl : data.length = 256) :
    Alike (d.write P data) (R.act { r with log := r.log ++ [⟨1, P, 0, data, 0⟩] }) := by
  have hpl : ({ r with log := r.log ++ [⟨1, P, 0, data, 0⟩] } : R).play = r.play.step ⟨1, P, 0, data, 0⟩ := by simp [R.play]
  have h1 : Alike { d with q := d.q ++ [(P, data)], writes := wrap64 (d.writes + 1) } { r with log := r.log ++ [⟨1, P, 0, data, 0⟩] } := by
    refine ⟨?_, ?_, h.n, h.armed, h.dead, h.epoch, h.reads, fun e he => ?_⟩
    · rw [hpl]; exact h.img
    · rw [hpl]; show d.q ++ [(P, data)] = r.play.q ++ [(P, data)]; rw [h.q]
    · rcases List.mem_append.1 he with he | he
      · exact h.evs e he
      · rw [List.mem_singleton.1 he]; exact .inl ⟨rfl, hP, hl⟩
  exact h1.act hd
theorem Alike.sync {d : D} {r : R} (h : Alike d r) (hd : d.dead = false) : Alike d.sync { r.act with log := r.act.log ++ [⟨2, 0, 0, [], 0⟩] } := by
  have ha := h.act hd
  have hpl : ({ r.act with log := r.act.log ++ [⟨2, 0, 0, [], 0⟩] } : R).play = r.act.play.step ⟨2, 0, 0, [], 0⟩ := by simp [R.play]
  refine ⟨?_, ?_, ha.n, ha.armed, ha.dead, ha.epoch, ha.reads, fun e he => ?_⟩
  · rw [hpl, R.act_play]
    show synced d.img d.q = synced r.play.img r.play.q
    rw [h.img, h.q]
  · rw [hpl]; rfl
  · rcases List.mem_append.1 he with he | he
    · exact ha.evs e he
    · rw [List.mem_singleton.1 he]; exact .inr (.inl rfl)
end Go.Proofs.Ytbjffjplpnnhoaa
