/-
  The document's answer for layer 12: bytes and Ones.
-/
import Derived.Test.YtnobhfpjchofpaaCb
namespace Go.Proofs.Ytnobhfpjchofpaa
set_option linter.unusedVariables false
set_option linter.unusedSimpArgs false
open Go.RowKit

set_option maxRecDepth 100000 in
theorem refBytes_any {w : World} {v : Value} {l : List UInt8} (hv : BytesAt w v l) (hl : l.length ≤ 2097152) :
    Calls Try.prog 29 #[v] w fun e w' => ∃ v', e = .returned v' ∧ OwnB w' v' l ∧ (∀ k, v'.ownBlock = some k → w.heap.size ≤ k) ∧ Keeps [] w w' := by
  obtain ⟨a, c, rfl, hc, hm⟩ := hv.form
  unfold maxLen at hm
  obtain ⟨i0, hi0, hz0, hz1, hz2⟩ := info_parts info_u8
  have HI0 := Lib.hid hi0
  have HZ0 := Lib.hid hz0
  have HZ1 := Lib.hid hz1
  have HZ2 := Lib.hid hz2
  have HV := Lib.hid hv
  clear hi0 hz0 hz1 hz2 hv
  go_enter Try.func29, Try.ntmps29
  go_wp2_with fail
  go_loopw [3, 4] (fun v i wr => ∃ k : Nat, k ≤ l.length ∧ i = .int .i64 k ∧ wr.ownsRow w.heap.size 5 1 v k ((l.take k).map B) ∧ Keeps [] w wr) (fun _ i _ => l.length - (intOf i).toNat)
  case atStart => exact ⟨0, Nat.zero_le _, rfl, World.ownsRow_nil _ _ _ _, Keeps.refl _ _⟩
  case round =>
    obtain ⟨k, hk, rfl, hown, hkr⟩ := hrel
    have hov := hown.lt
    have HOWN := Lib.hid hown
    have hsz := hkr.size
    clear hown
    by_cases hlt : k < l.length
    · obtain ⟨g, o, rfl, hg, hr⟩ := HV.out.at (by omega)
      obtain ⟨x, hx⟩ : ∃ x, l[k]? = some x := ⟨l[k], List.getElem?_eq_getElem hlt⟩
      have e1 := range_byte (w' := wr) hr (hkr.block g hg (by simp)) hx
      have b0 : (0 : Int) ≤ (k : Int) := by omega
      have b1 : (k : Int) < (l.length : Int) := by omega
      have HX := Lib.hid hx
      clear hx hr
      go_wp2_with (refine wpList_append_lies _ rfl (.tmp 11) (.tmp 16) 26 rfl w.heap.size 5 i0 (.int .u8 0) 1 1 Try.underlying26 HI0.out HZ0.out HZ1.out HZ2.out rfl (by omega) _ k _ rfl (HOWN.out.alloc _) ⟨wr.heap.size, 0, none⟩ 1 1 [.int .u8 x.toNat] rfl rfl (World.news_of_block (cs := #[.int .u8 x.toNat]) (t := 5) (fr := (0, 0)) (heap_new_at rfl)) (by simp [Value.oneCell']) (by omega) (by simp only [maxLen]; omega) (by omega) (by simp; omega) _ rfl ?_)
      intro g2 cap wn h1 h2 h3 h4
      go_wp2_with fail
      go_roundw
      case rel =>
        refine ⟨k + 1, by omega, by go_num, ?_, (hkr.alloc _).grown h2 (fun j hj => .inr (hov j hj).1)⟩
        rw [List.take_add_one, HX.out, List.map_append, List.map_take]
        exact h1
      case measure => simp [intOf]; omega
    · have e : k = l.length := by omega
      subst e
      go_wp2_with fail
      go_ret
      have h := HOWN.out
      rw [List.take_length] at h
      exact ⟨_, rfl, ownsRow_base h, fun j hj => (hov j hj).1, hkr⟩


theorem ones_step (n : Nat) (h : n < 256) : Lib.onesCount n = n % 2 + Lib.onesCount (n / 2) := by
  have key : ∀ n : Fin 256, Lib.onesCount n.val = n.val % 2 + Lib.onesCount (n.val / 2) := by decide +kernel
  exact key ⟨n, h⟩
theorem ones_zero : Lib.onesCount 0 = 0 := by decide

set_option maxRecDepth 100000 in
theorem refOnes_any {w : World} (bs : List UInt8) (hl : bs.length = 32) :
    Calls Try.prog 28 #[.agg (bs.map B).toArray] w fun e w' => e = .returned (.int .i64 (onesOf bs)) ∧ Keeps [] w w' := by
  have HL := Lib.hid hl
  have hbx := heap_new_at (w := w) (o := .cells (bs.map B).toArray 27 (0, 0)) rfl
  have HBX := Lib.hid hbx
  obtain ⟨wa, hwa⟩ : ∃ wa, wa = w.alloc (.cells (bs.map B).toArray 27 (0, 0)) := ⟨_, rfl⟩
  have hrr : ∀ k (x : UInt8), bs[k]? = some x → wa.cell? ⟨w.heap.size, k, none⟩ = some (.int .u8 x.toNat) := fun k x hx => by
    rw [hwa, cell_of_row _ _ _ _ _ _ hbx, List.getElem?_toArray, List.getElem?_map, hx]
    rfl
  have HRR := Lib.hid hrr
  have HW := Lib.hid hwa
  clear hl hbx hwa hrr
  go_enter Try.func28, Try.ntmps28
  go_wp2_with fail
  rw [← HW.out]
  go_loopw [3, 4] (fun s i wr => ∃ k : Nat, k ≤ 32 ∧ i = .int .i64 k ∧ ∃ m : Nat, m = onesOf (bs.take k) ∧ s = .int .i64 m ∧ wr = wa) (fun s i _ => 32 - (intOf i).toNat)
  case atStart => exact ⟨0, by omega, rfl, 0, rfl, rfl, rfl⟩
  case round =>
    obtain ⟨k, hk, rfl, m, hm, rfl, rfl⟩ := hrel
    have hb := onesOf_le (bs.take k)
    rw [List.length_take, ← hm] at hb
    have HM := Lib.hid hm
    clear hm
    by_cases hlt : k < 32
    · obtain ⟨x, hx⟩ : ∃ x, x = bs[k]'(by rw [HL.out]; exact hlt) := ⟨_, rfl⟩
      have e1 := HRR.out k x (by rw [hx]; exact List.getElem?_eq_getElem _)
      have hx8 := x.toNat_lt
      have b0 : (0 : Int) ≤ (k : Int) := by omega
      have b1 : (k : Int) < 32 := by omega
      have h8 := onesCount_le x
      obtain ⟨c, hc⟩ : ∃ c, c = Lib.onesCount x.toNat := ⟨_, rfl⟩
      rw [← hc] at h8
      have HC := Lib.hid hc
      have HX := Lib.hid hx
      clear hx hc
      go_wp2_with fail
      obtain ⟨wo, rfl⟩ : ∃ wo : World, wo = wr := ⟨_, rfl⟩
      go_loopw [3, 5] (fun s v wr => ∃ q n d : Nat, q ≤ 255 ∧ v = .int .i64 q ∧ s = .int .i64 n ∧ d = Lib.onesCount q ∧ n + d = m + c ∧ wr = wo) (fun s v _ => (intOf v).toNat)
      case atStart => exact ⟨x.toNat, m, c, by omega, by go_num, rfl, HC.out, rfl, rfl⟩
      case round =>
        obtain ⟨q, n, d, hq, rfl, rfl, hd, hnd, rfl⟩ := hrel
        have HD := Lib.hid hd
        clear hd
        by_cases hq0 : 0 < q
        · have hst := ones_step q (by omega)
          obtain ⟨d2, hd2⟩ : ∃ d2, d2 = Lib.onesCount (q / 2) := ⟨_, rfl⟩
          rw [← hd2, ← HD.out] at hst
          have HD2 := Lib.hid hd2
          have HST := Lib.hid hst
          clear hd2 hst
          have q0 : (0 : Int) < (q : Int) := by omega
          go_wp2_with fail
          go_roundw
          case rel =>
            have h := HST.out
            exact ⟨q / 2, n + q % 2, d2, by omega, by go_num, by go_num, HD2.out, by omega, trivial⟩
          case measure => simp [intOf]; omega
        · have e : q = 0 := by omega
          subst e
          have hd0 : d = 0 := HD.out.trans ones_zero
          clear HD
          go_wp2_with fail
          go_roundw
          case rel =>
            refine ⟨k + 1, by omega, by go_num, m + c, ?_, by simp; omega, trivial⟩
            rw [onesOf_take _ _ (by rw [HL.out]; exact hlt), ← HX.out, HM.out, HC.out]
          case measure => simp [intOf]; omega
    · have e : k = 32 := by omega
      subst e
      go_wp2_with fail
      go_ret
      refine ⟨?_, by rw [HW.out]; exact (Keeps.refl _ _).alloc _⟩
      have h := HM.out
      rw [List.take_of_length_le (by rw [HL.out]; omega)] at h
      show Ending.returned (.int .i64 m) = _
      rw [h]
end Go.Proofs.Ytnobhfpjchofpaa
