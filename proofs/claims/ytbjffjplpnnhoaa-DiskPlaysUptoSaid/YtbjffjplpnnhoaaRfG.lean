/-
  ledgerref4: Write, Crash.
-/
import Derived.Test.YtbjffjplpnnhoaaRfD
namespace Go.Proofs.Ytbjffjplpnnhoaa
set_option linter.unusedVariables false
set_option linter.unusedSimpArgs false
open Go.RowKit

/-- A build whose parts are known yields its value. -/
theorem yieldsIf_build {P : Program} {ops : Array Oper} {S : World → Prop} {o : Oper} {a : Act} {v : Value} (hw : Region.wanted o (yielded ops a.tmps) = true) (t : TypeId) (ps : Array (Nat × Operand)) (vs : Array (Nat × Value)) (ho : o.op = .build t ps) (hvs : (ps.map fun p => (p.1, a.eval p.2)) = vs)
    (h : ∀ w, (Instr.build t vs).run P w = .ok v w) : Go.YieldsIf P ops S o v a :=
  .inl ⟨hw, fun w _ => by
    subst hvs
    unfold execOp
    simp only [ho, Sem.run_bind, Sem.run_pure, h, Result.andThen_ok]⟩
theorem built_eventW (p : Nat) (l : List UInt8) (a : Option Addr) (n c : Nat) : Try.prog.built 112 [(0, .int .i64 1), (1, .int .i64 p), (3, .slice a n c)] = some (Ev.cells ⟨1, p, 0, l, 0⟩ (.slice a n c)).toArray := by kernel_rfl
theorem built_eventC (l : List UInt8) (a : Option Addr) (n c : Nat) : Try.prog.built 112 [(0, .int .i64 3), (3, .slice a n c)] = some (Ev.cells ⟨3, 0, 0, l, 0⟩ (.slice a n c)).toArray := by kernel_rfl

set_option maxRecDepth 100000 in
theorem rfWrite_down {w : World} {b : Nat} {r : R} {F : List Nat} (h : RefAt w b r F) (hd : r.down = true) {page : Int} {dv : Value} :
    Calls Try.prog 60 #[.pointer (some ⟨b, 0, none⟩), .int .i64 page, dv] w fun e w' => e = .returned (.int .i64 2) ∧ w = w' := by
  obtain ⟨bv, lv, dvs, hI, rfl⟩ := h
  obtain ⟨c0, c1, c2, c3, c4, c5⟩ := hI.cells
  rw [hd] at c3
  go_enter Try.func60, Try.ntmps60
  go_wp2_with fail
  go_ret
  exact ⟨rfl, rfl⟩
set_option maxRecDepth 100000 in
theorem rfWrite_page {w : World} {b : Nat} {r : R} {F : List Nat} (h : RefAt w b r F) (hd : r.down = false) {n : Nat} (hn : r.base.length = 256 * n) (hm : n ≤ 4096) {page : Int} {dv : Value} (hp : page < 0 ∨ (n : Int) ≤ page) :
    Calls Try.prog 60 #[.pointer (some ⟨b, 0, none⟩), .int .i64 page, dv] w fun e w' => e = .returned (.int .i64 41) ∧ w = w' := by
  have CP := Lib.hid (rfPages_any h hn hm)
  obtain ⟨bv, lv, dvs, hI, rfl⟩ := h
  obtain ⟨c0, c1, c2, c3, c4, c5⟩ := hI.cells
  rw [hd] at c3
  clear hn hI
  by_cases hp0 : page < 0
  · go_enter Try.func60, Try.ntmps60
    go_wp2_with fail
    go_ret
    exact ⟨rfl, rfl⟩
  · have hp1 : (n : Int) ≤ page := by omega
    clear hp
    go_enter Try.func60, Try.ntmps60
    go_wp2_with (go_at_call 52; refine CP.out.mono ?_; rintro e w' ⟨rfl, rfl⟩)
    go_ret
    exact ⟨rfl, rfl⟩
set_option maxRecDepth 100000 in
theorem rfWrite_size {w : World} {b : Nat} {r : R} {F : List Nat} (h : RefAt w b r F) (hd : r.down = false) {n : Nat} (hn : r.base.length = 256 * n) (hm : n ≤ 4096) {page : Int} {a : Option Addr} {len c : Nat} (hp0 : 0 ≤ page) (hp1 : page < n) (hl : len ≠ 256) :
    Calls Try.prog 60 #[.pointer (some ⟨b, 0, none⟩), .int .i64 page, .slice a len c] w fun e w' => e = .returned (.int .i64 42) ∧ w = w' := by
  have CP := Lib.hid (rfPages_any h hn hm)
  obtain ⟨bv, lv, dvs, hI, rfl⟩ := h
  obtain ⟨c0, c1, c2, c3, c4, c5⟩ := hI.cells
  rw [hd] at c3
  have hp2 : ¬ page < 0 := by omega
  have hp3 : ¬ (n : Int) ≤ page := by omega
  have hl' : ((len : Int) != 256) = true := by simp; omega
  clear hn hI
  go_enter Try.func60, Try.ntmps60
  go_wp2_with (go_at_call 52; refine CP.out.mono ?_; rintro e w' ⟨rfl, rfl⟩)
  go_ret
  exact ⟨rfl, rfl⟩

set_option maxRecDepth 100000 in
set_option maxHeartbeats 1600000 in
theorem rfWrite_ok {w : World} {b : Nat} {r : R} {F : List Nat} (h : RefAt w b r F) (hd : r.down = false) {n : Nat} (hn : r.base.length = 256 * n) (hm : n ≤ 4096) (page : Nat) (hp : page < n) {dv : Value} {data : List UInt8} (hv : BytesAt w dv data) (hl : data.length = 256) (hq : r.log.length < 4294967296)
    {v : Int} (hv2 : v = if r.armed = 1 then 2 else 0) {r' : R} (hr' : r' = R.act { r with log := r.log ++ [⟨1, page, 0, data, 0⟩] }) :
    Calls Try.prog 60 #[.pointer (some ⟨b, 0, none⟩), .int .i64 page, dv] w fun e w' => e = .returned (.int .i64 v) ∧ Keeps F w w' ∧ ∃ F', RefAt w' b r' F' ∧ From w F F' := by
  have CP := Lib.hid (rfPages_any h hn hm)
  have hp2 : ¬ (page : Int) < 0 := by omega
  have hp3 : ¬ (n : Int) ≤ (page : Int) := by omega
  obtain ⟨bv, lv, dvs, hI, rfl⟩ := h
  obtain ⟨c0, c1, c2, c3, c4, c5⟩ := hI.cells
  have f1 := hI.free 1
  rw [hd] at c3
  obtain ⟨va, vc, rfl, hvc, hvm⟩ := hv.form
  rw [hl] at hv hvc ⊢
  have hl' : ((256 : Int) != 256) = false := by simp
  obtain ⟨al, cl, rfl⟩ := hI.lform
  have HI := Lib.hid hI
  have HL := Lib.hid hl
  have HD := Lib.hid hd
  have HV2 := Lib.hid hv2
  have HR' := Lib.hid hr'
  clear hn hI hd hv2 hr' hl
  go_enter Try.func60, Try.ntmps60
  go_wp2_with (go_at_call 52; refine CP.out.mono ?_; rintro e w' ⟨rfl, rfl⟩)
  refine rl_start (fun w' => w'.cell? ⟨b, 1, none⟩ = some (.slice al r.log.length cl) ∧ w'.frozen? ⟨b, 1, none⟩ = false) 13 (by kernel_rfl) ?_ (fun hHeld => ?_)
  · exact ⟨c1, f1⟩
  refine' rl_take (i := 0) (v := _) rfl (by kernel_rfl) (by kernel_rfl) (by kernel_rfl) (by kernel_rfl) (fun _ _ _ h => h) (Or.inl ⟨by rfl, ?_⟩) (by assumption) ?_
  rotate_left 1
  · (intro w0 hSw; (try dsimp only at hSw); go_split_ands; go_simp; (try with_reducible rfl))
  try simp only [Act.put, List.setIfInBounds_toArray, List.set_cons_zero, List.set_cons_succ, List.getElem_toArray, List.getElem_cons_zero, List.getElem_cons_succ]
  refine' rl_take (i := 1) (v := _) rfl (by kernel_rfl) (by kernel_rfl) (by kernel_rfl) (by kernel_rfl) (fun _ _ _ h => h) (Or.inl ⟨by rfl, ?_⟩) (by assumption) ?_
  rotate_left 1
  · (intro w0 hSw; (try dsimp only at hSw); go_split_ands; go_simp; (try with_reducible rfl))
  try simp only [Act.put, List.setIfInBounds_toArray, List.set_cons_zero, List.set_cons_succ, List.getElem_toArray, List.getElem_cons_zero, List.getElem_cons_succ]
  refine' rl_take (i := 2) (v := _) rfl (by kernel_rfl) (by kernel_rfl) (by kernel_rfl) (by kernel_rfl) (fun _ _ _ h => h) (Or.inl ⟨by rfl, ?_⟩) (by assumption) ?_
  rotate_left 1
  · (intro w0 hSw; (try dsimp only at hSw); go_split_ands; go_simp; (try with_reducible rfl))
  try simp only [Act.put, List.setIfInBounds_toArray, List.set_cons_zero, List.set_cons_succ, List.getElem_toArray, List.getElem_cons_zero, List.getElem_cons_succ]
  refine' rl_take (i := 3) (v := _) rfl (by kernel_rfl) (by kernel_rfl) (by kernel_rfl) (by kernel_rfl) (fun _ _ _ h => h) (Or.inl ⟨by rfl, ?_⟩) (by assumption) ?_
  rotate_left 1
  · (intro w0 hSw; (try dsimp only at hSw); go_split_ands; go_simp; (try with_reducible rfl))
  try simp only [Act.put, List.setIfInBounds_toArray, List.set_cons_zero, List.set_cons_succ, List.getElem_toArray, List.getElem_cons_zero, List.getElem_cons_succ]
  refine' rl_take (i := 4) (v := _) rfl (by kernel_rfl) (by kernel_rfl) (by kernel_rfl) (by kernel_rfl) (fun _ _ _ h => h) (Or.inl ⟨by rfl, ?_⟩) (by assumption) ?_
  rotate_left 1
  · (intro w0 hSw; (try dsimp only at hSw); go_split_ands; go_simp; (try with_reducible rfl))
  try simp only [Act.put, List.setIfInBounds_toArray, List.set_cons_zero, List.set_cons_succ, List.getElem_toArray, List.getElem_cons_zero, List.getElem_cons_succ]
  refine' rl_take (i := 5) (v := _) rfl (by kernel_rfl) (by kernel_rfl) (by kernel_rfl) (by kernel_rfl) (fun _ _ _ h => h) (Or.inl ⟨by rfl, ?_⟩) (by assumption) ?_
  rotate_left 1
  · (intro w0 hSw; (try dsimp only at hSw); go_split_ands; go_simp; (try with_reducible rfl))
  try simp only [Act.put, List.setIfInBounds_toArray, List.set_cons_zero, List.set_cons_succ, List.getElem_toArray, List.getElem_cons_zero, List.getElem_cons_succ]
  refine' rl_take (i := 6) (v := _) rfl (by kernel_rfl) (by kernel_rfl) (by kernel_rfl) (by kernel_rfl) (fun _ _ _ h => h) (Or.inl ⟨by rfl, ?_⟩) (by assumption) ?_
  rotate_left 1
  · (intro w0 hSw; (try dsimp only at hSw); go_split_ands; go_simp; (try with_reducible rfl))
  try simp only [Act.put, List.setIfInBounds_toArray, List.set_cons_zero, List.set_cons_succ, List.getElem_toArray, List.getElem_cons_zero, List.getElem_cons_succ]
  have cC := rfCopied_any (w := w.drew) (l := data) (hv.keeps ((Keeps.refl [] w).drew) (by simp)) (by have := HL.out; omega)
  rw [HL.out] at cC
  refine rl_act (i := 7) (by kernel_rfl) rfl (fun K hK => ?_)
  go_simp
  refine cC.mono ?_
  rintro e w1 ⟨da, dc, rfl, hO, hfr, hk1⟩
  have hI1 := HI.out.keep (w' := w1) (fun k hk => hk1.block k (by have := HI.out.lt k hk; simpa using this) (by simp))
  have hs1 := hk1.size
  have hr1 := hI1.cells.2.1
  have hf1 := hI1.free 1
  have hdvf : ∀ k, (Value.slice da 256 dc).ownBlock = some k → k ≠ b ∧ (Value.slice al r.log.length cl).ownBlock ≠ some k := fun k hk => by
    have h1 := hfr k hk
    simp at h1
    have h2 := lt_of_heap HI.out.root
    refine ⟨by omega, fun e => ?_⟩
    have h3 := (World.ownsRow.lt HI.out.log k e).2
    omega
  obtain ⟨EC, hEC⟩ : ∃ EC, EC = Ev.cells ⟨1, page, 0, data, 0⟩ (.slice da 256 dc) := ⟨_, rfl⟩
  have hec5 : EC.length = 5 := by rw [hEC]; rfl
  have hbd := fun w => run_build (P := Try.prog) w _ _ _ (built_eventW page data da 256 dc)
  obtain ⟨_, w2, ⟨g2, cp2, rfl⟩, hr, hb2', hI2, hk2, hfr2⟩ := push_event hI1 ⟨1, page, 0, data, 0⟩ (dv := .slice da 256 dc) hO rfl hdvf hq 106
  rw [← hEC] at hbd hr
  have hsl := run_buildSlice_one (P := Try.prog) w1 Try.underlying106 info_event (cs := EC.toArray) (by simpa using hec5) (by omega) (by omega)
  have hap := run_builtin_append hr
  have HBD := Lib.hid hbd
  have HSL := Lib.hid hsl
  have HAP := Lib.hid hap
  have HI2 := Lib.hid hI2
  have HK2 := Lib.hid hk2
  have HFR2 := Lib.hid hfr2
  have HFR := Lib.hid hfr
  have HK1 := Lib.hid hk1
  have hb1lt := lt_of_heap hI1.root
  have hroot2 := hI1.root
  rw [← hb2'] at hroot2
  have d1 : w2.cell? ⟨b, 1, none⟩ = some (.slice al r.log.length cl) := by rw [cell_of_row w2 b 1 _ _ _ hroot2]; rfl
  have d2 := frozen_of_row w2 b 1 _ _ hroot2
  clear hbd hr hsl hap hI2 hk2 hfr2 hfr hk1 hec5 hI1 hO hdvf hb2' hroot2
  refine hK.out _ _ ?_ (fun hHeld => ?_)
  · exact ⟨hr1, hf1⟩
  clear hK K
  try simp only [Act.put, List.setIfInBounds_toArray, List.set_cons_zero, List.set_cons_succ, List.getElem_toArray, List.getElem_cons_zero, List.getElem_cons_succ]
  refine' rl_take (i := 8) (v := _) rfl (by kernel_rfl) (by kernel_rfl) (by kernel_rfl) (by kernel_rfl) (fun _ _ _ h => h) (yieldsIf_build (by rfl) 112 _ _ rfl (by simp [Act.eval]) (fun w => HBD.out w)) (by assumption) ?_
  try simp only [Act.put, List.setIfInBounds_toArray, List.set_cons_zero, List.set_cons_succ, List.getElem_toArray, List.getElem_cons_zero, List.getElem_cons_succ]
  refine rl_act (i := 9) (by kernel_rfl) rfl (fun K hK => ?_)
  (refine st_buildSlice rfl 106 1 #[(0, .tmp 34)] #[(0, .agg EC.toArray)] rfl (by simp [Act.eval]) ?_; refine ⟨_, _, HSL.out, ?_⟩; try simp only [Act.put, List.setIfInBounds_toArray, List.set_cons_zero, List.set_cons_succ, List.getElem_toArray, List.getElem_cons_zero, List.getElem_cons_succ])
  refine hK.out _ _ ?_ (fun hHeld => ?_)
  · exact ⟨(World.cell?_of_block (a := ⟨b, 1, none⟩) (heap_old_at hb1lt)).trans hr1, (World.frozen?_of_block (a := ⟨b, 1, none⟩) (heap_old_at hb1lt)).trans hf1⟩
  clear hK K
  try simp only [Act.put, List.setIfInBounds_toArray, List.set_cons_zero, List.set_cons_succ, List.getElem_toArray, List.getElem_cons_zero, List.getElem_cons_succ]
  refine rl_act (i := 10) (by kernel_rfl) rfl (fun K hK => ?_)
  refine st_builtin rfl .append #[.tmp 30, .tmp 35] #[106, 106] rfl ?_
  simp only [List.map_toArray, List.map_cons, List.map_nil]
  refine ⟨_, _, HAP.out, ?_⟩
  try simp only [Act.put, List.setIfInBounds_toArray, List.set_cons_zero, List.set_cons_succ, List.getElem_toArray, List.getElem_cons_zero, List.getElem_cons_succ]
  refine hK.out _ _ ?_ (fun hHeld => ?_)
  · exact ⟨d1, d2⟩
  clear hK K
  try simp only [Act.put, List.setIfInBounds_toArray, List.set_cons_zero, List.set_cons_succ, List.getElem_toArray, List.getElem_cons_zero, List.getElem_cons_succ]
  refine rl_act (i := 11) (by kernel_rfl) rfl (fun K hK => ?_)
  go_simp
  refine hK.out _ _ ?_ (fun hHeld => ?_)
  · exact ⟨d1, d2⟩
  clear hK K
  try simp only [Act.put, List.setIfInBounds_toArray, List.set_cons_zero, List.set_cons_succ, List.getElem_toArray, List.getElem_cons_zero, List.getElem_cons_succ]
  refine' rl_take (i := 12) (v := _) rfl (by kernel_rfl) (by kernel_rfl) (by kernel_rfl) (by kernel_rfl) (fun _ _ _ h => h) (Or.inl ⟨by rfl, ?_⟩) (by assumption) ?_
  rotate_left 1
  · (intro w0 hSw; (try dsimp only at hSw); go_split_ands; go_simp; (try with_reducible rfl))
  try simp only [Act.put, List.setIfInBounds_toArray, List.set_cons_zero, List.set_cons_succ, List.getElem_toArray, List.getElem_cons_zero, List.getElem_cons_succ]
  refine rl_last (by kernel_rfl) (by kernel_rfl) rfl (fun K hK => ?_)
  go_simp
  refine hK.out _ _ ?_
  clear hK K
  try simp only [Act.put, List.setIfInBounds_toArray, List.set_cons_zero, List.set_cons_succ, List.getElem_toArray, List.getElem_cons_zero, List.getElem_cons_succ]

  have cA := rfAct_any (r := { r with log := r.log ++ [⟨1, page, 0, data, 0⟩] }) ⟨bv, _, _, HI2.out, rfl⟩ HD.out
  have CA := Lib.hid cA
  clear cA hEC d1 d2 hr1 hf1 hHeld
  have KFOOT : ∀ k ∈ rFoot b bv (.slice (some ⟨g2, 0, none⟩) (r.log.length + 1) cp2) (dvs ++ [.slice da 256 dc]), k ∈ rFoot b bv (.slice al r.log.length cl) dvs ∨ w.heap.size ≤ k := fun k hk => by
    rcases HFR2.out k hk with h | h | h
    · exact .inl h
    · exact .inr (by have := HFR.out k h; simpa using this)
    · exact .inr (by simp at hs1; omega)
  by_cases ha : r.armed = 1
  · have ca := CA.out
    rw [show decide (({ r with log := r.log ++ [⟨1, page, 0, data, 0⟩] } : R).armed ≠ 1) = false by simp [ha]] at ca
    have CA2 := Lib.hid ca
    have HA := Lib.hid ha
    clear ca ha CA
    go_wp2_with fail
    refine CA2.out.mono ?_
    rintro e w4 ⟨rfl, hk4, hR4⟩
    go_wp2_with fail
    go_ret
    refine ⟨by rw [HV2.out, if_pos HA.out]; rfl, ?_, _, by rw [HR'.out]; exact hR4, ?_⟩
    · have k1 : Keeps (rFoot b bv (.slice al r.log.length cl) dvs) w _ := ((Keeps.refl _ w).drew.trans (G := []) HK1.out (by simp)).trans HK2.out (fun k hk => .inl hk)
      exact k1.trans hk4 (fun k hk => KFOOT k hk)
    · intro k hk
      exact KFOOT k hk
  · have ca := CA.out
    rw [show decide (({ r with log := r.log ++ [⟨1, page, 0, data, 0⟩] } : R).armed ≠ 1) = true by simp [ha]] at ca
    have CA2 := Lib.hid ca
    have HA := Lib.hid ha
    clear ca ha CA
    go_wp2_with fail
    refine CA2.out.mono ?_
    rintro e w4 ⟨rfl, hk4, hR4⟩
    go_wp2_with fail
    go_ret
    refine ⟨by rw [HV2.out, if_neg HA.out]; rfl, ?_, _, by rw [HR'.out]; exact hR4, ?_⟩
    · have k1 : Keeps (rFoot b bv (.slice al r.log.length cl) dvs) w _ := ((Keeps.refl _ w).drew.trans (G := []) HK1.out (by simp)).trans HK2.out (fun k hk => .inl hk)
      exact k1.trans hk4 (fun k hk => KFOOT k hk)
    · intro k hk
      exact KFOOT k hk

set_option maxRecDepth 100000 in
set_option maxHeartbeats 1600000 in
theorem rfCrash_ok {w : World} {b : Nat} {r : R} {F : List Nat} (h : RefAt w b r F) {dv : Value} {data : List UInt8} (hv : BytesAt w dv data) (hl : data.length ≤ 16777216) (hq : r.log.length < 4294967296) (hk4 : ∀ e ∈ r.log, e.kind = 1 ∨ e.kind = 2 ∨ e.kind = 3 ∨ e.kind = 4) {n : Nat} (hn : openN r.log = n)
    {r' : R} (hr' : r' = { r with log := r.log ++ [⟨3, 0, 0, data, 0⟩], down := false, armed := 0, ages := wrap64 (r.ages + 1) }) :
    Calls Try.prog 63 #[.pointer (some ⟨b, 0, none⟩), dv] w fun e w' => e = .returned (.int .i64 n) ∧ Keeps F w w' ∧ ∃ F', RefAt w' b r' F' ∧ From w F F' := by
  have CO := Lib.hid (rfOpen_any h hq hk4 hn)
  obtain ⟨bv, lv, dvs, hI, rfl⟩ := h
  obtain ⟨c0, c1, c2, c3, c4, c5⟩ := hI.cells
  have f1 := hI.free 1
  obtain ⟨va, vc, rfl, hvc, hvm⟩ := hv.form
  obtain ⟨al, cl, rfl⟩ := hI.lform
  have HI := Lib.hid hI
  have HL := Lib.hid hl
  have HR' := Lib.hid hr'
  clear hn hI hr' hk4 hl
  go_enter Try.func63, Try.ntmps63
  go_wp2_with (go_at_call 59; refine CO.out.mono ?_; rintro e w' ⟨rfl, rfl⟩)
  refine rl_start (fun w' => w'.cell? ⟨b, 1, none⟩ = some (.slice al r.log.length cl) ∧ w'.frozen? ⟨b, 1, none⟩ = false) 12 (by kernel_rfl) ?_ (fun hHeld => ?_)
  · exact ⟨c1, f1⟩
  refine' rl_take (i := 0) (v := _) rfl (by kernel_rfl) (by kernel_rfl) (by kernel_rfl) (by kernel_rfl) (fun _ _ _ h => h) (Or.inl ⟨by rfl, ?_⟩) (by assumption) ?_
  rotate_left 1
  · (intro w0 hSw; (try dsimp only at hSw); go_split_ands; go_simp; (try with_reducible rfl))
  try simp only [Act.put, List.setIfInBounds_toArray, List.set_cons_zero, List.set_cons_succ, List.getElem_toArray, List.getElem_cons_zero, List.getElem_cons_succ]
  refine' rl_take (i := 1) (v := _) rfl (by kernel_rfl) (by kernel_rfl) (by kernel_rfl) (by kernel_rfl) (fun _ _ _ h => h) (Or.inl ⟨by rfl, ?_⟩) (by assumption) ?_
  rotate_left 1
  · (intro w0 hSw; (try dsimp only at hSw); go_split_ands; go_simp; (try with_reducible rfl))
  try simp only [Act.put, List.setIfInBounds_toArray, List.set_cons_zero, List.set_cons_succ, List.getElem_toArray, List.getElem_cons_zero, List.getElem_cons_succ]
  refine' rl_take (i := 2) (v := _) rfl (by kernel_rfl) (by kernel_rfl) (by kernel_rfl) (by kernel_rfl) (fun _ _ _ h => h) (Or.inl ⟨by rfl, ?_⟩) (by assumption) ?_
  rotate_left 1
  · (intro w0 hSw; (try dsimp only at hSw); go_split_ands; go_simp; (try with_reducible rfl))
  try simp only [Act.put, List.setIfInBounds_toArray, List.set_cons_zero, List.set_cons_succ, List.getElem_toArray, List.getElem_cons_zero, List.getElem_cons_succ]
  refine' rl_take (i := 3) (v := _) rfl (by kernel_rfl) (by kernel_rfl) (by kernel_rfl) (by kernel_rfl) (fun _ _ _ h => h) (Or.inl ⟨by rfl, ?_⟩) (by assumption) ?_
  rotate_left 1
  · (intro w0 hSw; (try dsimp only at hSw); go_split_ands; go_simp; (try with_reducible rfl))
  try simp only [Act.put, List.setIfInBounds_toArray, List.set_cons_zero, List.set_cons_succ, List.getElem_toArray, List.getElem_cons_zero, List.getElem_cons_succ]
  refine' rl_take (i := 4) (v := _) rfl (by kernel_rfl) (by kernel_rfl) (by kernel_rfl) (by kernel_rfl) (fun _ _ _ h => h) (Or.inl ⟨by rfl, ?_⟩) (by assumption) ?_
  rotate_left 1
  · (intro w0 hSw; (try dsimp only at hSw); go_split_ands; go_simp; (try with_reducible rfl))
  try simp only [Act.put, List.setIfInBounds_toArray, List.set_cons_zero, List.set_cons_succ, List.getElem_toArray, List.getElem_cons_zero, List.getElem_cons_succ]
  refine' rl_take (i := 5) (v := _) rfl (by kernel_rfl) (by kernel_rfl) (by kernel_rfl) (by kernel_rfl) (fun _ _ _ h => h) (Or.inl ⟨by rfl, ?_⟩) (by assumption) ?_
  rotate_left 1
  · (intro w0 hSw; (try dsimp only at hSw); go_split_ands; go_simp; (try with_reducible rfl))
  try simp only [Act.put, List.setIfInBounds_toArray, List.set_cons_zero, List.set_cons_succ, List.getElem_toArray, List.getElem_cons_zero, List.getElem_cons_succ]
  have cC := rfCopied_any (w := w.drew) (l := data) (hv.keeps ((Keeps.refl [] w).drew) (by simp)) (by have := HL.out; omega)
  refine rl_act (i := 6) (by kernel_rfl) rfl (fun K hK => ?_)
  go_simp
  refine cC.mono ?_
  rintro e w1 ⟨da, dc, rfl, hO, hfr, hk1⟩
  have hI1 := HI.out.keep (w' := w1) (fun k hk => hk1.block k (by have := HI.out.lt k hk; simpa using this) (by simp))
  have hs1 := hk1.size
  have hr1 := hI1.cells.2.1
  have hf1 := hI1.free 1
  have hdvf : ∀ k, (Value.slice da data.length dc).ownBlock = some k → k ≠ b ∧ (Value.slice al r.log.length cl).ownBlock ≠ some k := fun k hk => by
    have h1 := hfr k hk
    simp at h1
    have h2 := lt_of_heap HI.out.root
    refine ⟨by omega, fun e => ?_⟩
    have h3 := (World.ownsRow.lt HI.out.log k e).2
    omega
  obtain ⟨EC, hEC⟩ : ∃ EC, EC = Ev.cells ⟨3, 0, 0, data, 0⟩ (.slice da data.length dc) := ⟨_, rfl⟩
  have hec5 : EC.length = 5 := by rw [hEC]; rfl
  have hbd := fun w => run_build (P := Try.prog) w _ _ _ (built_eventC data da data.length dc)
  obtain ⟨_, w2, ⟨g2, cp2, rfl⟩, hr, hb2', hI2, hk2, hfr2⟩ := push_event hI1 ⟨3, 0, 0, data, 0⟩ (dv := .slice da data.length dc) hO rfl hdvf hq 106
  rw [← hEC] at hbd hr
  have hsl := run_buildSlice_one (P := Try.prog) w1 Try.underlying106 info_event (cs := EC.toArray) (by simpa using hec5) (by omega) (by omega)
  have hap := run_builtin_append hr
  have HBD := Lib.hid hbd
  have HSL := Lib.hid hsl
  have HAP := Lib.hid hap
  have HI2 := Lib.hid hI2
  have HK2 := Lib.hid hk2
  have HFR2 := Lib.hid hfr2
  have HFR := Lib.hid hfr
  have HK1 := Lib.hid hk1
  have hb1lt := lt_of_heap hI1.root
  have hroot2 := hI1.root
  rw [← hb2'] at hroot2
  have d1 : w2.cell? ⟨b, 1, none⟩ = some (.slice al r.log.length cl) := by rw [cell_of_row w2 b 1 _ _ _ hroot2]; rfl
  have d2 := frozen_of_row w2 b 1 _ _ hroot2
  clear hbd hr hsl hap hI2 hk2 hfr2 hfr hk1 hec5 hI1 hO hdvf hb2' hroot2
  refine hK.out _ _ ?_ (fun hHeld => ?_)
  · exact ⟨hr1, hf1⟩
  clear hK K
  try simp only [Act.put, List.setIfInBounds_toArray, List.set_cons_zero, List.set_cons_succ, List.getElem_toArray, List.getElem_cons_zero, List.getElem_cons_succ]
  refine' rl_take (i := 7) (v := _) rfl (by kernel_rfl) (by kernel_rfl) (by kernel_rfl) (by kernel_rfl) (fun _ _ _ h => h) (yieldsIf_build (by rfl) 112 _ _ rfl (by simp [Act.eval]) (fun w => HBD.out w)) (by assumption) ?_
  try simp only [Act.put, List.setIfInBounds_toArray, List.set_cons_zero, List.set_cons_succ, List.getElem_toArray, List.getElem_cons_zero, List.getElem_cons_succ]
  refine rl_act (i := 8) (by kernel_rfl) rfl (fun K hK => ?_)
  (refine st_buildSlice rfl 106 1 #[(0, .tmp 15)] #[(0, .agg EC.toArray)] rfl (by simp [Act.eval]) ?_; refine ⟨_, _, HSL.out, ?_⟩; try simp only [Act.put, List.setIfInBounds_toArray, List.set_cons_zero, List.set_cons_succ, List.getElem_toArray, List.getElem_cons_zero, List.getElem_cons_succ])
  refine hK.out _ _ ?_ (fun hHeld => ?_)
  · exact ⟨(World.cell?_of_block (a := ⟨b, 1, none⟩) (heap_old_at hb1lt)).trans hr1, (World.frozen?_of_block (a := ⟨b, 1, none⟩) (heap_old_at hb1lt)).trans hf1⟩
  clear hK K
  try simp only [Act.put, List.setIfInBounds_toArray, List.set_cons_zero, List.set_cons_succ, List.getElem_toArray, List.getElem_cons_zero, List.getElem_cons_succ]
  refine rl_act (i := 9) (by kernel_rfl) rfl (fun K hK => ?_)
  refine st_builtin rfl .append #[.tmp 12, .tmp 16] #[106, 106] rfl ?_
  simp only [List.map_toArray, List.map_cons, List.map_nil]
  refine ⟨_, _, HAP.out, ?_⟩
  try simp only [Act.put, List.setIfInBounds_toArray, List.set_cons_zero, List.set_cons_succ, List.getElem_toArray, List.getElem_cons_zero, List.getElem_cons_succ]
  refine hK.out _ _ ?_ (fun hHeld => ?_)
  · exact ⟨d1, d2⟩
  clear hK K
  try simp only [Act.put, List.setIfInBounds_toArray, List.set_cons_zero, List.set_cons_succ, List.getElem_toArray, List.getElem_cons_zero, List.getElem_cons_succ]
  refine rl_act (i := 10) (by kernel_rfl) rfl (fun K hK => ?_)
  go_simp
  refine hK.out _ _ ?_ (fun hHeld => ?_)
  · exact ⟨d1, d2⟩
  clear hK K
  try simp only [Act.put, List.setIfInBounds_toArray, List.set_cons_zero, List.set_cons_succ, List.getElem_toArray, List.getElem_cons_zero, List.getElem_cons_succ]
  refine' rl_take (i := 11) (v := _) rfl (by kernel_rfl) (by kernel_rfl) (by kernel_rfl) (by kernel_rfl) (fun _ _ _ h => h) (Or.inl ⟨by rfl, ?_⟩) (by assumption) ?_
  rotate_left 1
  · (intro w0 hSw; (try dsimp only at hSw); go_split_ands; go_simp; (try with_reducible rfl))
  try simp only [Act.put, List.setIfInBounds_toArray, List.set_cons_zero, List.set_cons_succ, List.getElem_toArray, List.getElem_cons_zero, List.getElem_cons_succ]
  refine rl_last (by kernel_rfl) (by kernel_rfl) rfl (fun K hK => ?_)
  go_simp
  refine hK.out _ _ ?_
  clear hK K
  try simp only [Act.put, List.setIfInBounds_toArray, List.set_cons_zero, List.set_cons_succ, List.getElem_toArray, List.getElem_cons_zero, List.getElem_cons_succ]

  have KFOOT : ∀ k ∈ rFoot b bv (.slice (some ⟨g2, 0, none⟩) (r.log.length + 1) cp2) (dvs ++ [.slice da data.length dc]), k ∈ rFoot b bv (.slice al r.log.length cl) dvs ∨ w.heap.size ≤ k := fun k hk => by
    rcases HFR2.out k hk with h | h | h
    · exact .inl h
    · exact .inr (by have := HFR.out k h; simpa using this)
    · exact .inr (by simp at hs1; omega)
  obtain ⟨hI3, hk3⟩ := HI2.out.setc { r with log := r.log ++ [⟨3, 0, 0, data, 0⟩], down := false } 3 (.bool false) rfl rfl HI2.out.arm0 HI2.out.arm1 rfl
  obtain ⟨hI4, hk4⟩ := hI3.setc { r with log := r.log ++ [⟨3, 0, 0, data, 0⟩], down := false, armed := 0 } 2 (.int .i64 0) rfl rfl (by simp) (by simp) rfl
  obtain ⟨hI5, hk5⟩ := hI4.setc { r with log := r.log ++ [⟨3, 0, 0, data, 0⟩], down := false, armed := 0, ages := wrap64 (r.ages + 1) } 4 (.int .i64 (wrap64 (r.ages + 1))) rfl rfl (by simp) (by simp) rfl
  obtain ⟨w3, hw3⟩ : ∃ w3, w3 = w2.setCell ⟨b, 1, none⟩ (.slice (some ⟨g2, 0, none⟩) (r.log.length + 1) cp2) := ⟨_, rfl⟩
  have hI2 := HI2.out
  have hk2 := HK2.out
  rw [← hw3] at hI2 hk2 hI3 hk3 hI4 hk4 hI5 hk5 ⊢
  obtain ⟨m0, m1, m2, m3, m4, m5⟩ := hI2.cells
  have g3 := hI2.free 3
  have n2 := hI3.cells.2.2.1
  have g2' := hI3.free 2
  have n4 := hI4.cells.2.2.2.2.1
  have g4 := hI4.free 4
  have HI5 := Lib.hid hI5
  have HK5 := Lib.hid (hk3.trans (hk4.trans hk5 (fun k hk => .inl hk)) (fun k hk => .inl hk))
  have HK22 := Lib.hid hk2
  clear hEC d1 d2 hr1 hf1 hHeld hI2 hI3 hI4 hI5 hk2 hk3 hk4 hk5 hw3 HI2 HK2
  go_wp2_with fail
  go_ret
  refine ⟨rfl, ?_, _, by rw [HR'.out]; exact ⟨bv, _, _, HI5.out, rfl⟩, fun k hk => KFOOT k hk⟩
  have k1 : Keeps (rFoot b bv (.slice al r.log.length cl) dvs) w w3 := ((Keeps.refl _ w).drew.trans (G := []) HK1.out (by simp)).trans HK22.out (fun k hk => .inl hk)
  exact k1.trans HK5.out (fun k hk => .inl (by simp at hk; simp [rFoot, hk]))

end Go.Proofs.Ytbjffjplpnnhoaa
