/-
  ledgerref4: copied, Sync, Flip.
-/
import Derived.Test.YtbjffjplpnnhoaaRfA
namespace Go.Proofs.Ytbjffjplpnnhoaa
set_option linter.unusedVariables false
set_option linter.unusedSimpArgs false
open Go.RowKit

theorem built_event1 (k : Nat) : Try.prog.built 112 [(0, .int .i64 k)] = some (Ev.cells ⟨k, 0, 0, [], 0⟩ (.slice none 0 0)).toArray := by kernel_rfl
theorem built_event4 (p q : Nat) (u : Nat) : Try.prog.built 112 [(0, .int .i64 4), (1, .int .i64 p), (2, .int .i64 q), (4, .int .u32 u)] = some (Ev.cells ⟨4, p, q, [], u⟩ (.slice none 0 0)).toArray := by kernel_rfl
theorem Ev.cells_len (e : Ev) (dv : Value) : (e.cells dv).length = 5 := rfl

set_option maxRecDepth 100000 in
theorem rfSync_down {w : World} {b : Nat} {r : R} {F : List Nat} (h : RefAt w b r F) (hd : r.down = true) :
    Calls Try.prog 61 #[.pointer (some ⟨b, 0, none⟩)] w fun e w' => e = .returned (.int .i64 2) ∧ w = w' := by
  obtain ⟨bv, lv, dvs, hI, rfl⟩ := h
  obtain ⟨c0, c1, c2, c3, c4, c5⟩ := hI.cells
  rw [hd] at c3
  go_enter Try.func61, Try.ntmps61
  go_wp2_with fail
  go_ret
  exact ⟨rfl, rfl⟩
set_option maxRecDepth 100000 in
theorem rfSync_gone {w : World} {b : Nat} {r : R} {F : List Nat} (h : RefAt w b r F) (hd : r.down = false) (ha : r.armed = 1) :
    Calls Try.prog 61 #[.pointer (some ⟨b, 0, none⟩)] w fun e w' => e = .returned (.int .i64 2) ∧ Keeps F w w' ∧ RefAt w' b r.act F := by
  have cA := rfAct_any h hd
  rw [show decide (r.armed ≠ 1) = false by simp [ha]] at cA
  obtain ⟨bv, lv, dvs, hI, rfl⟩ := h
  obtain ⟨c0, c1, c2, c3, c4, c5⟩ := hI.cells
  rw [hd] at c3
  have CA := Lib.hid cA
  clear cA ha hd hI
  go_enter Try.func61, Try.ntmps61
  go_wp2_with fail
  refine CA.out.mono ?_
  rintro e w1 ⟨rfl, hk, hR⟩
  go_wp2_with fail
  go_ret
  exact ⟨rfl, hk, hR⟩
set_option maxRecDepth 100000 in
set_option maxHeartbeats 800000 in
theorem rfSync_ok {w : World} {b : Nat} {r : R} {F : List Nat} (h : RefAt w b r F) (hd : r.down = false) (ha : r.armed ≠ 1) (hq : r.log.length < 4294967296) :
    Calls Try.prog 61 #[.pointer (some ⟨b, 0, none⟩)] w fun e w' => e = .returned (.int .i64 0) ∧ Keeps F w w' ∧ ∃ F', RefAt w' b { r.act with log := r.act.log ++ [⟨2, 0, 0, [], 0⟩] } F' ∧ From w F F' := by
  have cA := rfAct_any h hd
  rw [show decide (r.armed ≠ 1) = true by simp [ha]] at cA
  have hal : r.act.log = r.log := by unfold R.act; split <;> rfl
  obtain ⟨bv, lv, dvs, hI, hF⟩ := h
  obtain ⟨c0, c1, c2, c3, c4, c5⟩ := hI.cells
  rw [hd] at c3
  have CA := Lib.hid cA
  have HAL := Lib.hid hal
  clear cA ha hd hI hF hal
  go_enter Try.func61, Try.ntmps61
  go_wp2_with fail
  refine CA.out.mono ?_
  rintro e w1 ⟨rfl, hk, hR⟩
  obtain ⟨bv1, lv1, dvs1, hI1, hF1⟩ := hR
  obtain ⟨EC, hEC⟩ : ∃ EC, EC = Ev.cells ⟨2, 0, 0, [], 0⟩ (.slice none 0 0) := ⟨_, rfl⟩
  have hec5 : EC.length = 5 := by rw [hEC]; rfl
  have hbd := fun w => run_build (P := Try.prog) w _ _ _ (built_event1 2)
  obtain ⟨al, cl, rfl⟩ := hI1.lform
  obtain ⟨_, w2, ⟨g2, cp2, rfl⟩, hr, hb2, hI2, hk2, hfr⟩ := push_event hI1 ⟨2, 0, 0, [], 0⟩ (dv := .slice none 0 0) (World.ownsRow_nil _ _ _ _) rfl (by simp [Value.ownBlock]) (by rw [HAL.out]; exact hq) 106
  rw [← hEC] at hbd hr
  have hroot := hI1.root
  rw [← hb2] at hroot
  have d1 : w2.cell? ⟨b, 1, none⟩ = some (.slice al r.act.log.length cl) := by rw [cell_of_row w2 b 1 _ _ _ hroot]; rfl
  have d2 := frozen_of_row w2 b 1 _ _ hroot
  have e1 := hI1.cells.2.1
  have hsl := run_buildSlice_one (P := Try.prog) w1 Try.underlying106 info_event (cs := EC.toArray) (by simpa using hec5) (by omega) (by omega)
  have hap := run_builtin_append hr
  have HBD := Lib.hid hbd
  have HSL := Lib.hid hsl
  have HAP := Lib.hid hap
  have HI2 := Lib.hid hI2
  have HK2 := Lib.hid hk2
  have HFR := Lib.hid hfr
  have HK := Lib.hid hk
  have HF1 := Lib.hid hF1
  clear hEC hec5 hbd hr hb2 hI2 hk2 hfr hroot hI1 hF1 hsl hap hk
  go_wp2_with (first | (refine wl_build rfl 112 #[(0, .const (.int .i64 2))] #[(0, .int .i64 2)] rfl (by simp [Act.eval]) ?_; refine ⟨_, _, HBD.out _, ?_⟩; try simp only [Act.put, List.setIfInBounds_toArray, List.set_cons_zero, List.set_cons_succ, List.getElem_toArray, List.getElem_cons_zero, List.getElem_cons_succ]) | (refine wl_buildSlice rfl 106 1 #[(0, .tmp 17)] #[(0, .agg EC.toArray)] rfl (by simp [Act.eval]) ?_; refine ⟨_, _, HSL.out, ?_⟩; try simp only [Act.put, List.setIfInBounds_toArray, List.set_cons_zero, List.set_cons_succ, List.getElem_toArray, List.getElem_cons_zero, List.getElem_cons_succ]) | (refine wl_builtin rfl .append #[.tmp 16, .tmp 18] #[106, 106] rfl ?_; simp only [List.map_toArray, List.map_cons, List.map_nil]; refine ⟨_, _, HAP.out, ?_⟩; try simp only [Act.put, List.setIfInBounds_toArray, List.set_cons_zero, List.set_cons_succ, List.getElem_toArray, List.getElem_cons_zero, List.getElem_cons_succ]))
  go_ret
  have hk12 := HK2.out
  rw [← HF1.out] at hk12
  refine ⟨rfl, HK.out.trans hk12 (fun k hk => .inl hk), _, ⟨bv1, _, _, HI2.out, rfl⟩, fun k hk => ?_⟩
  rcases HFR.out k hk with h | h | h
  · exact .inl (by rw [HF1.out]; exact h)
  · simp [Value.ownBlock] at h
  · exact .inr (by have := HK.out.size; omega)
end Go.Proofs.Ytbjffjplpnnhoaa

/-
  ledgerref4: Flip, copied, Open.
-/
namespace Go.Proofs.Ytbjffjplpnnhoaa
set_option linter.unusedVariables false
set_option linter.unusedSimpArgs false
open Go.RowKit

set_option maxRecDepth 100000 in
theorem rfFlip_page {w : World} {b : Nat} {r : R} {F : List Nat} (h : RefAt w b r F) {n : Nat} (hn : r.base.length = 256 * n) (hm : n ≤ 4096) {page bit pat : Int} (hp : page < 0 ∨ (n : Int) ≤ page) :
    Calls Try.prog 64 #[.pointer (some ⟨b, 0, none⟩), .int .i64 page, .int .i64 bit, .int .u32 pat] w fun e w' => e = .returned (.int .i64 41) ∧ w = w' := by
  have CP := Lib.hid (rfPages_any h hn hm)
  clear h hn
  by_cases hp0 : page < 0
  · go_enter Try.func64, Try.ntmps64
    go_wp2_with fail
    go_ret
    exact ⟨rfl, rfl⟩
  · have hp1 : (n : Int) ≤ page := by omega
    clear hp
    go_enter Try.func64, Try.ntmps64
    go_wp2_with (go_at_call 52; refine CP.out.mono ?_; rintro e w' ⟨rfl, rfl⟩)
    go_ret
    exact ⟨rfl, rfl⟩
set_option maxRecDepth 100000 in
theorem rfFlip_arg {w : World} {b : Nat} {r : R} {F : List Nat} (h : RefAt w b r F) {n : Nat} (hn : r.base.length = 256 * n) (hm : n ≤ 4096) {page bit pat : Int} (hp0 : 0 ≤ page) (hp1 : page < n) (hb : bit < 0 ∨ 2048 ≤ bit) :
    Calls Try.prog 64 #[.pointer (some ⟨b, 0, none⟩), .int .i64 page, .int .i64 bit, .int .u32 pat] w fun e w' => e = .returned (.int .i64 1) ∧ w = w' := by
  have CP := Lib.hid (rfPages_any h hn hm)
  have hp2 : ¬ page < 0 := by omega
  have hp3 : ¬ (n : Int) ≤ page := by omega
  clear h hn
  by_cases hb0 : bit < 0
  · go_enter Try.func64, Try.ntmps64
    go_wp2_with (go_at_call 52; refine CP.out.mono ?_; rintro e w' ⟨rfl, rfl⟩)
    go_ret
    exact ⟨rfl, rfl⟩
  · have hb1 : 2048 ≤ bit := by omega
    clear hb
    go_enter Try.func64, Try.ntmps64
    go_wp2_with (go_at_call 52; refine CP.out.mono ?_; rintro e w' ⟨rfl, rfl⟩)
    go_ret
    exact ⟨rfl, rfl⟩
set_option maxRecDepth 100000 in
set_option maxHeartbeats 800000 in
theorem rfFlip_ok {w : World} {b : Nat} {r : R} {F : List Nat} (h : RefAt w b r F) {n : Nat} (hn : r.base.length = 256 * n) (hm : n ≤ 4096) (page bit p : Nat) (hp : page < n) (hb : bit < 2048) (hq : r.log.length < 4294967296) :
    Calls Try.prog 64 #[.pointer (some ⟨b, 0, none⟩), .int .i64 page, .int .i64 bit, .int .u32 p] w fun e w' => e = .returned (.int .i64 0) ∧ Keeps F w w' ∧ ∃ F', RefAt w' b { r with log := r.log ++ [⟨4, page, bit, [], p⟩] } F' ∧ From w F F' := by
  have CP := Lib.hid (rfPages_any h hn hm)
  have hp2 : ¬ (page : Int) < 0 := by omega
  have hp3 : ¬ (n : Int) ≤ (page : Int) := by omega
  have hb2 : ¬ (bit : Int) < 0 := by omega
  have hb3 : ¬ (2048 : Int) ≤ (bit : Int) := by omega
  obtain ⟨bv, lv, dvs, hI, rfl⟩ := h
  obtain ⟨c0, c1, c2, c3, c4, c5⟩ := hI.cells
  obtain ⟨EC, hEC⟩ : ∃ EC, EC = Ev.cells ⟨4, page, bit, [], p⟩ (.slice none 0 0) := ⟨_, rfl⟩
  have hec5 : EC.length = 5 := by rw [hEC]; rfl
  have hbd := fun w => run_build (P := Try.prog) w _ _ _ (built_event4 page bit p)
  obtain ⟨al, cl, rfl⟩ := hI.lform
  obtain ⟨_, w2, ⟨g2, cp2, rfl⟩, hr, hb2', hI2, hk2, hfr⟩ := push_event hI ⟨4, page, bit, [], p⟩ (dv := .slice none 0 0) (World.ownsRow_nil _ _ _ _) rfl (by simp [Value.ownBlock]) hq 106
  rw [← hEC] at hbd hr
  have hroot := hI.root
  rw [← hb2'] at hroot
  have d1 : w2.cell? ⟨b, 1, none⟩ = some (.slice al r.log.length cl) := by rw [cell_of_row w2 b 1 _ _ _ hroot]; rfl
  have d2 := frozen_of_row w2 b 1 _ _ hroot
  have hsl := run_buildSlice_one (P := Try.prog) w Try.underlying106 info_event (cs := EC.toArray) (by simpa using hec5) (by omega) (by omega)
  have hap := run_builtin_append hr
  have HBD := Lib.hid hbd
  have HSL := Lib.hid hsl
  have HAP := Lib.hid hap
  have HI2 := Lib.hid hI2
  have HK2 := Lib.hid hk2
  have HFR := Lib.hid hfr
  clear hEC hec5 hbd hr hb2' hI2 hk2 hfr hroot hI hsl hap hn
  go_enter Try.func64, Try.ntmps64
  go_wp2_with (first | (go_at_call 52; refine CP.out.mono ?_; rintro e w' ⟨rfl, rfl⟩) | (refine wl_build rfl 112 #[(0, .const (.int .i64 4)), (1, .tmp 28), (2, .tmp 29), (4, .tmp 30)] #[(0, .int .i64 4), (1, .int .i64 page), (2, .int .i64 bit), (4, .int .u32 p)] rfl (by simp [Act.eval]) ?_; refine ⟨_, _, HBD.out _, ?_⟩; try simp only [Act.put, List.setIfInBounds_toArray, List.set_cons_zero, List.set_cons_succ, List.getElem_toArray, List.getElem_cons_zero, List.getElem_cons_succ]) | (refine wl_buildSlice rfl 106 1 #[(0, .tmp 31)] #[(0, .agg EC.toArray)] rfl (by simp [Act.eval]) ?_; refine ⟨_, _, HSL.out, ?_⟩; try simp only [Act.put, List.setIfInBounds_toArray, List.set_cons_zero, List.set_cons_succ, List.getElem_toArray, List.getElem_cons_zero, List.getElem_cons_succ]) | (refine wl_builtin rfl .append #[.tmp 27, .tmp 32] #[106, 106] rfl ?_; simp only [List.map_toArray, List.map_cons, List.map_nil]; refine ⟨_, _, HAP.out, ?_⟩; try simp only [Act.put, List.setIfInBounds_toArray, List.set_cons_zero, List.set_cons_succ, List.getElem_toArray, List.getElem_cons_zero, List.getElem_cons_succ]))
  go_ret
  refine ⟨rfl, HK2.out, _, ⟨bv, _, _, HI2.out, rfl⟩, fun k hk => ?_⟩
  rcases HFR.out k hk with h | h | h
  · exact .inl h
  · simp [Value.ownBlock] at h
  · exact .inr h
set_option maxRecDepth 100000 in
theorem rfCopied_any {w : World} {v : Value} {l : List UInt8} (hv : BytesAt w v l) (hl : l.length ≤ 16777216) :
    Calls Try.prog 57 #[v] w fun e w' => ∃ a c, e = .returned (.slice a l.length c) ∧ OwnB w' (.slice a l.length c) l ∧ (∀ k, (Value.slice a l.length c).ownBlock = some k → w.heap.size ≤ k) ∧ Keeps [] w w' := by
  obtain ⟨a, c, rfl, hc, hm⟩ := hv.form
  unfold maxLen at hm
  obtain ⟨v', w', hr, hown, hg⟩ := run_append_bytes (base := w.heap.size) (v := .slice none 0 0) (n := 0) (xs := []) (World.ownsRow_nil _ _ _ _) hv (by omega) (Nat.le_refl _) 29
  rw [Nat.zero_add, List.nil_append] at hown
  obtain ⟨a2, c2, rfl⟩ := owns_slice' hown
  have hk : Keeps [] w w' := (Keeps.refl _ _).grown hg (fun j hj => by simp [Value.ownBlock] at hj)
  have hap := run_builtin_append hr
  have HAP := Lib.hid hap
  have HO := Lib.hid hown
  have HK := Lib.hid hk
  clear hap hr hown hg hk hv
  go_enter Try.func57, Try.ntmps57
  go_wp2_with (refine wl_builtin rfl .append #[.tmp 4, .tmp 5] #[29, 29] rfl ?_; simp only [List.map_toArray, List.map_cons, List.map_nil]; refine ⟨_, _, HAP.out, ?_⟩; try simp only [Act.put, List.setIfInBounds_toArray, List.set_cons_zero, List.set_cons_succ, List.getElem_toArray, List.getElem_cons_zero, List.getElem_cons_succ])
  go_ret
  exact ⟨a2, c2, rfl, ownsRow_base HO.out, fun k hk => (World.ownsRow.lt HO.out k hk).1, HK.out⟩
end Go.Proofs.Ytbjffjplpnnhoaa

/-
  ledgerref4: Open, Write, Crash.
-/
namespace Go.Proofs.Ytbjffjplpnnhoaa
set_option linter.unusedVariables false
set_option linter.unusedSimpArgs false
open Go.RowKit

theorem owns_range {w : World} {base : Nat} {e : TypeId} {size g n cap : Nat} {xs : List Value} (h : w.ownsRow base e size (.slice (some ⟨g, 0, none⟩) n cap) n xs) : w.rangeAt g 0 xs := by
  rcases h.2 with ⟨h0, _⟩ | ⟨g', cap', cur, hv, _, hh, h1, h2, h3, h4⟩
  · cases h0
  · injection hv with e1 _ _
    injection e1 with e1
    injection e1 with e1 _
    subst e1
    intro j u hj
    rw [Nat.zero_add, cell_of_row w g j _ _ _ hh]
    rw [← h4, List.getElem?_take] at hj
    split at hj
    · simpa using hj
    · cases hj
theorem RefIn.ev {w : World} {b : Nat} {r : R} {bv lv : Value} {dvs : List Value} (h : RefIn w b r bv lv dvs) {i : Nat} (hi : i < r.log.length) : ∃ g cap dv, lv = .slice (some ⟨g, 0, none⟩) r.log.length cap ∧ dvs[i]? = some dv ∧ OwnB w dv r.log[i].data ∧ w.rangeAt g (i * 5) (r.log[i].cells dv) ∧ g < w.heap.size := by
  have hl := h.log
  rcases h.log.2 with ⟨h0, h1⟩ | ⟨g, cap, cur, hv, _, hh, _⟩
  · omega
  · have hd : i < dvs.length := by rw [h.len]; exact hi
    obtain ⟨xs, zs, e, hx⟩ := evRow_at r.log dvs h.len i _ _ (List.getElem?_eq_getElem hi) (List.getElem?_eq_getElem hd)
    rw [hv] at hl
    have hr := owns_range hl
    rw [e] at hr
    have hr2 := range_sub hr
    rw [Nat.zero_add, hx] at hr2
    exact ⟨g, cap, dvs[i], hv, List.getElem?_eq_getElem hd, h.data i _ _ (List.getElem?_eq_getElem hi) (List.getElem?_eq_getElem hd), hr2, lt_of_heap hh⟩
/-- How many writes are open. -/
def openN (l : List Ev) : Nat := l.foldl (fun n e => if e.kind = 1 then n + 1 else if e.kind = 2 ∨ e.kind = 3 then 0 else n) 0
theorem openN_take (l : List Ev) {k : Nat} (hk : k < l.length) : openN (l.take (k + 1)) = if l[k].kind = 1 then openN (l.take k) + 1 else if l[k].kind = 2 ∨ l[k].kind = 3 then 0 else openN (l.take k) := by
  unfold openN
  rw [List.take_succ_eq_append_getElem hk, List.foldl_append]
  rfl
theorem openN_le (l : List Ev) : ∀ k, k ≤ l.length → openN (l.take k) ≤ k := by
  intro k
  induction k with
  | zero => intro _; simp [openN]
  | succ k ih =>
    intro hk
    rw [openN_take l (by omega)]
    have := ih (by omega)
    split
    · omega
    · split <;> omega
set_option maxRecDepth 100000 in
set_option maxHeartbeats 800000 in
theorem rfOpen_any {w : World} {b : Nat} {r : R} {F : List Nat} (h : RefAt w b r F) (hq : r.log.length < 4294967296) (hk4 : ∀ e ∈ r.log, e.kind = 1 ∨ e.kind = 2 ∨ e.kind = 3 ∨ e.kind = 4) {n : Nat} (hn : openN r.log = n) :
    Calls Try.prog 59 #[.pointer (some ⟨b, 0, none⟩)] w fun e w' => e = .returned (.int .i64 n) ∧ w = w' := by
  obtain ⟨bv, lv, dvs, hI, rfl⟩ := h
  obtain ⟨c0, c1, c2, c3, c4, c5⟩ := hI.cells
  obtain ⟨al, cl, rfl⟩ := hI.lform
  have HI := Lib.hid hI
  have HN := Lib.hid hn
  have HK4 := Lib.hid hk4
  clear hI hn c0 c2 c3 c4 c5 hk4
  go_enter Try.func59, Try.ntmps59
  go_wp2_with fail
  go_loopw [3, 4] (fun s i wr => ∃ k : Nat, k ≤ r.log.length ∧ s = .int .i64 (openN (r.log.take k) : Nat) ∧ i = .int .i64 k ∧ wr = w) (fun _ i _ => r.log.length - (intOf i).toNat)
  case atStart => exact ⟨0, Nat.zero_le _, rfl, rfl, rfl⟩
  case round =>
    obtain ⟨k, hk, rfl, rfl, rfl⟩ := hrel
    have hle := openN_le r.log k hk
    obtain ⟨q, hq2⟩ : ∃ q, q = openN (r.log.take k) := ⟨_, rfl⟩
    rw [← hq2] at hle ⊢
    have HQ := Lib.hid hq2
    clear hq2
    by_cases hlt : k < r.log.length
    · obtain ⟨g, cap, dv, hlv, hdv, _, hrg, hg⟩ := HI.out.ev hlt
      injection hlv with e1 _ e3
      subst e1 e3
      have hcell := hrg 0 (.int .i64 r.log[k].kind) rfl
      rw [Nat.add_zero] at hcell
      have hst := openN_take r.log hlt
      rw [← HQ.out] at hst
      have hkd := HK4.out _ (List.getElem_mem hlt)
      obtain ⟨kd, hkd2⟩ : ∃ kd, kd = r.log[k].kind := ⟨_, rfl⟩
      rw [← hkd2] at hcell hst hkd
      have HST := Lib.hid hst
      have k0 : (0 : Int) ≤ (k : Int) := by omega
      have k1 : (k : Int) < (r.log.length : Int) := by omega
      clear hst hkd2 hrg hdv
      rcases hkd with rfl | rfl | rfl | rfl
      all_goals simp only [show ((1 : Nat) : Int) = 1 from rfl, show ((2 : Nat) : Int) = 2 from rfl, show ((3 : Nat) : Int) = 3 from rfl, show ((4 : Nat) : Int) = 4 from rfl] at hcell
      · go_wp2_with fail
        go_roundw
        case rel => exact ⟨k + 1, by omega, by rw [HST.out]; simp, by go_num, trivial⟩
        case measure => simp [intOf]; omega
      · go_wp2_with fail
        go_roundw
        case rel => exact ⟨k + 1, by omega, by rw [HST.out]; rfl, by go_num, trivial⟩
        case measure => simp [intOf]; omega
      · go_wp2_with fail
        go_roundw
        case rel => exact ⟨k + 1, by omega, by rw [HST.out]; rfl, by go_num, trivial⟩
        case measure => simp [intOf]; omega
      · go_wp2_with fail
        go_roundw
        case rel => exact ⟨k + 1, by omega, by rw [HST.out]; rfl, by go_num, trivial⟩
        case measure => simp [intOf]; omega
    · have e : q = n := by rw [HQ.out, show k = r.log.length from by omega, List.take_length]; exact HN.out
      have k1 : ¬ (k : Int) < (r.log.length : Int) := by omega
      clear HQ
      subst e
      go_wp2_with fail
      go_ret
      exact ⟨rfl, rfl⟩
end Go.Proofs.Ytbjffjplpnnhoaa
