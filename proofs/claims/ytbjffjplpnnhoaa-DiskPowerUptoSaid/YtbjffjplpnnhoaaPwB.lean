/-
  The walks of ledgerlaw4.down and ledgerlaw4.DiskPower.
-/
import Derived.Test.YtbjffjplpnnhoaaPwA
import Derived.Test.YtbjffjplpnnhoaaDcCopies
import Derived.Test.YtbjffjplpnnhoaaOpenBools
import Derived.Deep.DeepCutAuto
import Derived.Deep.CutBlock
namespace Go.Proofs.Ytbjffjplpnnhoaa
set_option linter.unusedVariables false
set_option linter.unusedSimpArgs false
open Go.RowKit

theorem DiskAt.down {w : World} {b : Nat} {d : D} {F : List Nat} (h : DiskAt w b d F) (hd : d.dead = true) : w.cell? ⟨b, 8, none⟩ = some (.bool true) := by
  obtain ⟨bp, qv, bm, hI, rfl⟩ := h
  obtain ⟨c0, c1, c2, c3, c4, c5, c6, c7, c8, c9⟩ := hI.cells
  rw [hd] at c8
  exact c8
set_option maxRecDepth 100000 in
theorem lDown_any {w : World} {b : Nat} {d : D} {F : List Nat} (h : DiskAt w b d F) (hd : d.dead = true) :
    Calls Try.prog 28 #[.pointer (some ⟨b, 0, none⟩)] w fun e w' => e = .returned (.bool true) ∧ Keeps [] w w' := by
  have h8 := fun (wx : World) (hk : Keeps [] w wx) => (h.keeps hk (by simp)).down hd
  have h0 := h8 w (Keeps.refl _ _)
  have hmk := fun (w : World) => make_bytes w 256 (by omega)
  obtain ⟨wm, hwm⟩ : ∃ wm, wm = w.alloc (.cells ((List.replicate 256 (0 : UInt8)).map B).toArray 5 (0, 0)) := ⟨_, rfl⟩
  have hkm : Keeps [] w wm := by rw [hwm]; exact (Keeps.refl _ _).alloc _
  have hmk2 := make_bytes w 256 (by omega)
  rw [← hwm] at hmk2
  have h1 := h8 wm hkm
  have HMK := Lib.hid hmk2
  clear hmk hmk2 h8 h hd hwm
  go_enter Try.func28, Try.ntmps28
  go_wp2_with fail
  refine (dRead_down h0).mono ?_
  rintro e w1 ⟨rfl, rfl⟩
  go_wp2_with fail
  refine (dRead_down h0).mono ?_
  rintro e w1 ⟨rfl, rfl⟩
  go_wp2_with fail
  refine (dPower_any h0).mono ?_
  rintro e w1 ⟨rfl, rfl⟩
  go_wp2_with (refine wl_makeSlice rfl 29 (.const (.int .i64 256)) (.const (.int .i64 256)) rfl ?_; refine ⟨_, _, HMK.out, ?_⟩; try simp only [Act.put, List.setIfInBounds_toArray, List.set_cons_zero, List.set_cons_succ, List.getElem_toArray, List.getElem_cons_zero, List.getElem_cons_succ])
  refine (dWrite_down h1).mono ?_
  rintro e w1 ⟨rfl, rfl⟩
  go_wp2_with fail
  refine (dWrite_down h1).mono ?_
  rintro e w1 ⟨rfl, rfl⟩
  go_wp2_with fail
  refine (dSync_down h1).mono ?_
  rintro e w1 ⟨rfl, rfl⟩
  go_wp2_with fail
  go_ret
  exact ⟨rfl, hkm⟩


set_option maxRecDepth 100000 in
set_option maxHeartbeats 6400000 in
theorem power_walk {w : World} (n : Int) (n0 : -9223372036854775808 ≤ n) (n1 : n ≤ 9223372036854775807) (rf : Int) (r0 : -9223372036854775808 ≤ rf) (r1 : rf ≤ 9223372036854775807) {v : Value} {acts : List Bool} (hv : BoolsAt w v acts) (la : acts.length ≤ 1048576) :
    Calls Try.prog 8 #[.int .i64 n, v, .int .i64 rf] w fun e w' => e = .returned (.bool true) ∧ Below w.heap.size w w' := by
  obtain ⟨a, c, rfl, hc, hm⟩ := hv.form
  unfold maxLen at hm
  have H0 := At.start w
  have hm255 := fun (w : World) => make_bytes w 255 (by omega)
  have HM255 := Lib.hid hm255
  have HV := Lib.hid hv
  clear hv hm255
  go_enter Try.func8, Try.ntmps8
  go_wp2_with fail
  refine (lFresh_any (w := w) 0 (by omega) (by omega)).mono ?_
  rintro e wa ⟨rfl, hka, Fa, hDa, hFa⟩
  rw [show (((0 : Int) % 8).toNat + 3) = 3 from rfl] at hDa
  have Hc := H0.add (t := diskThing _ _ Fa) hka hDa hFa
  clear hka hDa hFa H0
  go_wp2_with fail
  refine (power_thing (Hc.disk 0 rfl) (p := true) rfl).mono ?_
  rintro e wb ⟨rfl, rfl⟩
  obtain ⟨d1, hd1⟩ : ∃ d1 : D, d1 = { D.new 3 with armed := max n 0 } := ⟨_, rfl⟩
  go_wp2_with fail
  refine (arm_thing (Hc.disk 0 rfl) rfl n n1 hd1).mono ?_
  rintro e w1 ⟨rfl, hk, hD⟩
  have H1 := Hc.upd 0 rfl hk (t' := diskThing _ _ Fa) hD (From.refl _ _)
  simp only [List.set_cons_succ, List.set_cons_zero] at H1
  have hp1 := Pow.start hd1
  obtain ⟨b, hb⟩ : ∃ b, b = w.heap.size + 2 := ⟨_, rfl⟩
  rw [← hb] at H1 ⊢
  have HAT1 := Lib.hid H1
  have HP1 := Lib.hid hp1
  clear hk hD Hc hd1 H1 hp1 hb
  go_wp2_with fail
  go_loopw [8, 9, 10] (fun o g i wr => ∃ (k oo : Nat) (gg : Bool) (d : D) (F : List Nat), k ≤ acts.length ∧ g = .bool gg ∧ i = .int .i64 k ∧ o = .int .i64 oo ∧ Pow n k gg oo d ∧ At w wr [diskThing b d F]) (fun _ _ i _ => acts.length - (intOf i).toNat)
  case atStart => exact ⟨0, 0, false, d1, Fa, Nat.zero_le _, rfl, rfl, rfl, HP1.out, HAT1.out⟩
  case round =>
    obtain ⟨k, oo, gg, d, F, hk, rfl, rfl, rfl, hp, hat⟩ := hrel
    have HP := Lib.hid hp
    have HAT := Lib.hid hat
    have hoo := hp.oi
    clear hp hat
    by_cases hlt : k < acts.length
    · have k0 : (k : Int) < (acts.length : Int) := by omega
      have k00 : (0 : Int) ≤ (k : Int) := by omega
      cases gg with
      | true =>
        go_upto_block 2 with fail
        go_cut [11] (fun s wx => wx = wr)
        case first =>
          obtain ⟨w7, rfl⟩ : ∃ wo : World, wo = wr := ⟨_, rfl⟩
          go_wp2_with fail
          go_loopw [11] (fun i wr => i = .int .i64 0 ∧ wr = w7) (fun i _ => 0)
          case atStart => exact ⟨rfl, rfl⟩
          case round =>
            obtain ⟨rfl, rfl⟩ := hrel
            by_cases hr : (0 : Int) < rf
            · go_wp2_with fail
              go_meet
              case rel => rfl
            · go_wp2_with fail
              go_meet
              case rel => rfl
        case rest =>
          obtain rfl := hcut
          go_wp2_with fail
          refine (lDown_any (HAT.out.disk 0 rfl) HP.out.dead).mono ?_
          rintro e w5 ⟨rfl, hk5⟩
          go_wp2_with fail
          go_roundw
          case rel =>
            exact ⟨k + 1, oo, true, d, F, by omega, rfl, by go_num, rfl, HP.out.gone, HAT.out.keep hk5⟩
          case measure => simp [intOf]; omega
      | false =>
        go_upto_block 2 with fail
        go_cut [11] (fun s wx => At w wx [diskThing b d F])
        case first =>
          obtain ⟨w7, rfl⟩ : ∃ wo : World, wo = wr := ⟨_, rfl⟩
          go_wp2_with fail
          go_loopw [11] (fun i wr => ∃ j : Nat, j ≤ 3 ∧ i = .int .i64 j ∧ At w wr [diskThing b d F]) (fun i _ => 3 - (intOf i).toNat)
          case atStart => exact ⟨0, by omega, rfl, HAT.out⟩
          case round =>
            obtain ⟨j, hj, rfl, hat⟩ := hrel
            have HATJ := Lib.hid hat
            clear hat
            by_cases hr : (j : Int) < rf
            · by_cases hj3 : (j : Int) < 3
              · have c1 := write_page_thing (HATJ.out.disk 0 rfl) HP.out.dead (page := 3) (dv := .slice none 0 0) (.inr (by rw [HP.out.n3]; omega))
                obtain ⟨w8, hw8⟩ : ∃ w8, w8 = wr.alloc (.cells ((List.replicate 255 (0 : UInt8)).map B).toArray 5 (0, 0)) := ⟨_, rfl⟩
                have hk8 : Keeps [] wr w8 := by rw [hw8]; exact (Keeps.refl _ _).alloc _
                have hat8 := HATJ.out.keep hk8
                have c2 := write_size_thing (hat8.disk 0 rfl) HP.out.dead (page := 0) (a := some ⟨wr.heap.size, 0, none⟩) (len := 255) (c := 255) (by omega) (by rw [HP.out.n3]; omega) (by omega)
                have hm8 := HM255.out wr
                rw [← hw8] at hm8
                have C1 := Lib.hid c1
                have C2 := Lib.hid c2
                have HM8 := Lib.hid hm8
                have HAT8 := Lib.hid hat8
                clear c1 c2 hm8 hat8 hw8 hk8
                go_wp2_with fail
                refine C1.out.mono ?_
                rintro e w' ⟨rfl, rfl⟩
                go_wp2_with (refine Go.BigFrame.wpList_want (by rfl) fun K hK => wp_makeSlice 29 (.const (.int .i64 255)) (.const (.int .i64 255)) rfl ⟨_, _, HM8.out, hK _ _ ?_⟩; try simp only [Act.put, List.setIfInBounds_toArray, List.set_cons_zero, List.set_cons_succ, List.getElem_toArray, List.getElem_cons_zero, List.getElem_cons_succ])
                refine C2.out.mono ?_
                rintro e w' ⟨rfl, rfl⟩
                go_wp2_with fail
                go_roundw
                case rel => exact ⟨j + 1, by omega, by go_num, HAT8.out⟩
                case measure => simp [intOf]; omega
              · go_wp2_with fail
                go_meet
                case rel => exact HATJ.out
            · go_wp2_with fail
              go_meet
              case rel => exact HATJ.out
        case rest =>
          have HAT := Lib.hid hcut
          obtain ⟨g2, o2, rfl, hg2, hc0⟩ := HV.out.at hlt
          have hcell := (World.cell?_of_block (w := w) (w' := wc) (a := ⟨g2, o2 + k, none⟩) (hcut.below.block g2 hg2)).trans hc0
          have HC0 := Lib.hid hc0
          clear hc0
          clear hcut
          cases hact : acts[k] with
          | true =>
            rw [hact] at hcell
            have HACT := Lib.hid hact
            clear hact
            obtain ⟨wc2, hwc2⟩ : ∃ wc2, wc2 = wc.alloc (.cells ((List.replicate 256 (0 : UInt8)).map B).toArray 5 (0, 0)) := ⟨_, rfl⟩
            have hk2 : Keeps [] wc wc2 := by rw [hwc2]; exact (Keeps.refl _ _).alloc _
            have hat2 := HAT.out.keep hk2
            have hmk2 := make_bytes wc 256 (by omega)
            have hown := own_made wc 256 (by omega)
            rw [← hwc2] at hmk2 hown
            have HMK2 := Lib.hid hmk2
            have HAT2 := Lib.hid hat2
            have HOWN := Lib.hid hown
            clear hat2 hmk2 hown hwc2
            by_cases hn : (k : Int) + 1 = n
            · have hp' := HP.out.write (k % 3) (List.replicate 256 0)
              rw [decide_eq_true hn] at hp'
              have cW := write_thing (HAT2.out.disk 0 rfl) HP.out.dead (k % 3) (by rw [HP.out.n3]; omega) (data := List.replicate 256 0) (by simp) HOWN.out (by rw [HP.out.q]; have := HP.out.oi; omega) (r := 2) (by rw [if_pos (HP.out.one.2 hn)])
              have hrem : ((k : Int)).tmod 3 = ((k % 3 : Nat) : Int) := (Int.ofNat_tmod k 3).symm
              have hnb : ((k : Int) + 1 == n) = true := by simp [hn]
              have HP2 := Lib.hid hp'
              have CW := Lib.hid cW
              clear hp' cW hn
              go_wp2_with (refine wl_makeSlice rfl 29 (.const (.int .i64 256)) (.const (.int .i64 256)) rfl ?_; refine ⟨_, _, HMK2.out, ?_⟩; try simp only [Act.put, List.setIfInBounds_toArray, List.set_cons_zero, List.set_cons_succ, List.getElem_toArray, List.getElem_cons_zero, List.getElem_cons_succ])
              refine CW.out.mono ?_
              rintro e w5 ⟨rfl, hk5, F5, hD5, hF5⟩
              have hat5 := HAT2.out.upd 0 rfl hk5 (t' := diskThing _ _ F5) hD5 hF5
              simp only [List.set_cons_zero] at hat5
              have HAT5 := Lib.hid hat5
              have hcell5 := (World.cell?_of_block (w := w) (w' := w5) (a := ⟨g2, o2 + k, none⟩) (hat5.below.block g2 hg2)).trans HC0.out
              rw [HACT.out] at hcell5
              clear hk5 hD5 hat5 hcell
              go_wp2_with fail
              go_roundw
              case rel =>
                exact ⟨k + 1, _, _, _, _, by omega, rfl, by go_num, by go_num, HP2.out, HAT5.out⟩
              case measure => simp [intOf]; omega
            · have hp' := HP.out.write (k % 3) (List.replicate 256 0)
              rw [decide_eq_false hn] at hp'
              have cW := write_thing (HAT2.out.disk 0 rfl) HP.out.dead (k % 3) (by rw [HP.out.n3]; omega) (data := List.replicate 256 0) (by simp) HOWN.out (by rw [HP.out.q]; have := HP.out.oi; omega) (r := 0) (by rw [if_neg (fun e => hn (HP.out.one.1 e))])
              have hrem : ((k : Int)).tmod 3 = ((k % 3 : Nat) : Int) := (Int.ofNat_tmod k 3).symm
              have hnb : ((k : Int) + 1 == n) = false := by simp [hn]
              have HP2 := Lib.hid hp'
              have CW := Lib.hid cW
              clear hp' cW hn
              go_wp2_with (refine wl_makeSlice rfl 29 (.const (.int .i64 256)) (.const (.int .i64 256)) rfl ?_; refine ⟨_, _, HMK2.out, ?_⟩; try simp only [Act.put, List.setIfInBounds_toArray, List.set_cons_zero, List.set_cons_succ, List.getElem_toArray, List.getElem_cons_zero, List.getElem_cons_succ])
              refine CW.out.mono ?_
              rintro e w5 ⟨rfl, hk5, F5, hD5, hF5⟩
              have hat5 := HAT2.out.upd 0 rfl hk5 (t' := diskThing _ _ F5) hD5 hF5
              simp only [List.set_cons_zero] at hat5
              have HAT5 := Lib.hid hat5
              have hcell5 := (World.cell?_of_block (w := w) (w' := w5) (a := ⟨g2, o2 + k, none⟩) (hat5.below.block g2 hg2)).trans HC0.out
              rw [HACT.out] at hcell5
              clear hk5 hD5 hat5 hcell
              go_wp2_with fail
              go_roundw
              case rel =>
                exact ⟨k + 1, _, _, _, _, by omega, rfl, by go_num, by go_num, HP2.out, HAT5.out⟩
              case measure => simp [intOf]; omega
          | false =>
            rw [hact] at hcell
            have HACT := Lib.hid hact
            clear hact
            have HAT2 := HAT
            by_cases hn : (k : Int) + 1 = n
            · have hp' := HP.out.syncGone hn
              have cW := sync_gone_thing (HAT2.out.disk 0 rfl) HP.out.dead (HP.out.one.2 hn)
              have hnb : ((k : Int) + 1 == n) = true := by simp [hn]
              have HP2 := Lib.hid hp'
              have CW := Lib.hid cW
              clear hp' cW hn
              go_wp2_with fail
              refine CW.out.mono ?_
              rintro e w5 ⟨rfl, hk5, hD5⟩
              have hat5 := HAT2.out.upd 0 rfl hk5 (t' := diskThing _ _ F) hD5 (From.refl _ _)
              simp only [List.set_cons_zero] at hat5
              have HAT5 := Lib.hid hat5
              have hcell5 := (World.cell?_of_block (w := w) (w' := w5) (a := ⟨g2, o2 + k, none⟩) (hat5.below.block g2 hg2)).trans HC0.out
              rw [HACT.out] at hcell5
              clear hk5 hD5 hat5 hcell
              go_wp2_with fail
              go_roundw
              case rel =>
                exact ⟨k + 1, _, _, _, _, by omega, rfl, by go_num, by go_num, HP2.out, HAT5.out⟩
              case measure => simp [intOf]; omega
            · have hp' := HP.out.sync hn
              have cW := sync_ok_thing (HAT2.out.disk 0 rfl) HP.out.dead (fun e => hn (HP.out.one.1 e))
              have hnb : ((k : Int) + 1 == n) = false := by simp [hn]
              have HP2 := Lib.hid hp'
              have CW := Lib.hid cW
              clear hp' cW hn
              go_wp2_with fail
              refine CW.out.mono ?_
              rintro e w5 ⟨rfl, hk5, F5, hD5, hF5⟩
              have hat5 := HAT2.out.upd 0 rfl hk5 (t' := diskThing _ _ F5) hD5 hF5
              simp only [List.set_cons_zero] at hat5
              have HAT5 := Lib.hid hat5
              have hcell5 := (World.cell?_of_block (w := w) (w' := w5) (a := ⟨g2, o2 + k, none⟩) (hat5.below.block g2 hg2)).trans HC0.out
              rw [HACT.out] at hcell5
              clear hk5 hD5 hat5 hcell
              go_wp2_with fail
              go_roundw
              case rel =>
                exact ⟨k + 1, _, _, _, _, by omega, rfl, by go_num, by go_num, HP2.out, HAT5.out⟩
              case measure => simp [intOf]; omega

    · have e : k = acts.length := by omega
      cases gg with
      | true =>
        have k0 : ¬ (k : Int) < (acts.length : Int) := by omega
        go_wp2_with fail
        refine (counts_thing (HAT.out.disk 0 rfl) HP.out.q).mono ?_
        rintro e w5 ⟨x, y, z, rfl, hk5⟩
        have hat5 := HAT.out.keep hk5
        have HAT5 := Lib.hid hat5
        clear hat5 hk5
        go_wp2_with fail
        have hat6 := HAT5.out.keep ((Keeps.refl _ _).alloc (.cells #[.int .i64 x, .int .i64 y, .int .i64 z, .int .i64 oo] 56))
        have HAT6 := Lib.hid hat6
        refine (power_thing (hat6.disk 0 rfl) (p := false) (by rw [HP.out.dead]; rfl)).mono ?_
        rintro e w' ⟨rfl, rfl⟩
        clear hat6
        go_wp2_with fail
        refine (crash_thing (HAT6.out.disk 0 rfl) (fates := []) (BytesAt_nil _) (by simp [Value.elemBlock]) HP.out.q).mono ?_
        rintro e w7 ⟨rfl, hk7, F7, hD7, hF7⟩
        have hat7 := HAT6.out.upd 0 rfl hk7 (t' := diskThing _ _ F7) hD7 hF7
        simp only [List.set_cons_zero] at hat7
        have hep : (d.crash []).epoch = 1 := by
          show wrap64 (d.epoch + 1) = 1
          rw [HP.out.ep]
          first | decide | (unfold wrap64; omega)
        have hcm : Calm (d.crash []) := ⟨rfl, rfl⟩
        obtain ⟨d7, hd7⟩ : ∃ d7, d7 = d.crash [] := ⟨_, rfl⟩
        rw [← hd7] at hat7 hep hcm
        have HAT7 := Lib.hid hat7
        have HEP := Lib.hid hep
        have HCM := Lib.hid hcm
        clear hk7 hD7 hF7 hat7 hep hcm hd7
        go_wp2_with fail
        refine (power_thing (HAT7.out.disk 0 rfl) (p := true) HCM.out.dead).mono ?_
        rintro e w' ⟨rfl, rfl⟩
        go_wp2_with fail
        refine (epoch_thing (HAT7.out.disk 0 rfl) HEP.out).mono ?_
        rintro e w' ⟨rfl, rfl⟩
        go_wp2_with fail
        go_loopw [14] (fun i wr => ∃ (j : Nat) (d : D) (F : List Nat), j ≤ acts.length + 3 ∧ i = .int .i64 j ∧ Calm d ∧ At w wr [diskThing b d F]) (fun i _ => acts.length + 3 - (intOf i).toNat)
        case atStart => exact ⟨0, d7, F7, Nat.zero_le _, rfl, HCM.out, HAT7.out⟩
        case round =>
          obtain ⟨j, d8, F8, hj, rfl, hcm, hat⟩ := hrel
          have HC8 := Lib.hid hcm
          have HAT8 := Lib.hid hat
          clear hcm hat
          by_cases hjl : (j : Int) < (acts.length : Int) + 3
          · go_wp2_with fail
            refine (sync_thing (HAT8.out.disk 0 rfl) HC8.out).mono ?_
            rintro e w9 ⟨rfl, hk9, F9, hD9, hF9⟩
            have hat9 := HAT8.out.upd 0 rfl hk9 (t' := diskThing _ _ F9) hD9 hF9
            simp only [List.set_cons_zero] at hat9
            have HAT9 := Lib.hid hat9
            clear hk9 hD9 hF9 hat9
            go_wp2_with fail
            go_roundw
            case rel => exact ⟨j + 1, _, F9, by omega, by go_num, HC8.out.sync, HAT9.out⟩
            case measure => simp [intOf]; omega
          · go_wp2_with fail
            go_ret
            exact ⟨rfl, HAT8.out.below⟩

      | false =>
        have k0 : ¬ (k : Int) < (acts.length : Int) := by omega
        go_wp2_with fail
        refine (counts_thing (HAT.out.disk 0 rfl) HP.out.q).mono ?_
        rintro e w5 ⟨x, y, z, rfl, hk5⟩
        have hat5 := HAT.out.keep hk5
        have HAT5 := Lib.hid hat5
        clear hat5 hk5
        go_wp2_with fail
        have hat6 := HAT5.out.keep ((Keeps.refl _ _).alloc (.cells #[.int .i64 x, .int .i64 y, .int .i64 z, .int .i64 oo] 56))
        have HAT6 := Lib.hid hat6
        refine (power_thing (hat6.disk 0 rfl) (p := true) (by rw [HP.out.dead]; rfl)).mono ?_
        rintro e w' ⟨rfl, rfl⟩
        clear hat6
        go_wp2_with fail
        refine (crash_thing (HAT6.out.disk 0 rfl) (fates := []) (BytesAt_nil _) (by simp [Value.elemBlock]) HP.out.q).mono ?_
        rintro e w7 ⟨rfl, hk7, F7, hD7, hF7⟩
        have hat7 := HAT6.out.upd 0 rfl hk7 (t' := diskThing _ _ F7) hD7 hF7
        simp only [List.set_cons_zero] at hat7
        have hep : (d.crash []).epoch = 1 := by
          show wrap64 (d.epoch + 1) = 1
          rw [HP.out.ep]
          first | decide | (unfold wrap64; omega)
        have hcm : Calm (d.crash []) := ⟨rfl, rfl⟩
        obtain ⟨d7, hd7⟩ : ∃ d7, d7 = d.crash [] := ⟨_, rfl⟩
        rw [← hd7] at hat7 hep hcm
        have HAT7 := Lib.hid hat7
        have HEP := Lib.hid hep
        have HCM := Lib.hid hcm
        clear hk7 hD7 hF7 hat7 hep hcm hd7
        go_wp2_with fail
        refine (power_thing (HAT7.out.disk 0 rfl) (p := true) HCM.out.dead).mono ?_
        rintro e w' ⟨rfl, rfl⟩
        go_wp2_with fail
        refine (epoch_thing (HAT7.out.disk 0 rfl) HEP.out).mono ?_
        rintro e w' ⟨rfl, rfl⟩
        go_wp2_with fail
        go_loopw [14] (fun i wr => ∃ (j : Nat) (d : D) (F : List Nat), j ≤ acts.length + 3 ∧ i = .int .i64 j ∧ Calm d ∧ At w wr [diskThing b d F]) (fun i _ => acts.length + 3 - (intOf i).toNat)
        case atStart => exact ⟨0, d7, F7, Nat.zero_le _, rfl, HCM.out, HAT7.out⟩
        case round =>
          obtain ⟨j, d8, F8, hj, rfl, hcm, hat⟩ := hrel
          have HC8 := Lib.hid hcm
          have HAT8 := Lib.hid hat
          clear hcm hat
          by_cases hjl : (j : Int) < (acts.length : Int) + 3
          · go_wp2_with fail
            refine (sync_thing (HAT8.out.disk 0 rfl) HC8.out).mono ?_
            rintro e w9 ⟨rfl, hk9, F9, hD9, hF9⟩
            have hat9 := HAT8.out.upd 0 rfl hk9 (t' := diskThing _ _ F9) hD9 hF9
            simp only [List.set_cons_zero] at hat9
            have HAT9 := Lib.hid hat9
            clear hk9 hD9 hF9 hat9
            go_wp2_with fail
            go_roundw
            case rel => exact ⟨j + 1, _, F9, by omega, by go_num, HC8.out.sync, HAT9.out⟩
            case measure => simp [intOf]; omega
          · go_wp2_with fail
            go_ret
            exact ⟨rfl, HAT8.out.below⟩


end Go.Proofs.Ytbjffjplpnnhoaa
