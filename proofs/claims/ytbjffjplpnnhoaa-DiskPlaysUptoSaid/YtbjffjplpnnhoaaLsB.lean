/-
  The walk of ledgerlaw4.DiskLasts.
-/
import Derived.Test.YtbjffjplpnnhoaaLsA
import Derived.Test.YtbjffjplpnnhoaaDcCopies
import Derived.Deep.DeepCutAuto
import Derived.Deep.CutBlock
namespace Go.Proofs.Ytbjffjplpnnhoaa
set_option linter.unusedVariables false
set_option linter.unusedSimpArgs false
open Go.RowKit
section
open Go
variable {P : Program} {ops : Array Oper} {Q : Exit → Act → World → Prop} {md : Region.Mode} {S : World → Prop} {last : Nat}
/-- Two operations may come up: either way. -/
theorem rl_act2 {i j : Nat} {oi oj : Oper} {fuel : Nat} {listed : Array Bool} {a : Act} {w : World} (hr : Region.ready md ops listed = [i, j]) (hoi : ops[i]? = some oi) (hoj : ops[j]? = some oj)
    (hi : ∀ K' : Act → World → Prop, Shut (∀ a w, S w → (S w → wpAnyL P md ops Q S last fuel (listed.setIfInBounds i true) a w) → K' a w) → if Region.wanted oi (yielded ops a.tmps) = true then Oper.wp P oi a w K' Q else K' (a.put oi.dst undef) w)
    (hj : ∀ K' : Act → World → Prop, Shut (∀ a w, S w → (S w → wpAnyL P md ops Q S last fuel (listed.setIfInBounds j true) a w) → K' a w) → if Region.wanted oj (yielded ops a.tmps) = true then Oper.wp P oj a w K' Q else K' (a.put oj.dst undef) w) :
    wpAnyL P md ops Q S last (fuel + 1) listed a w := by
  refine ⟨fun h0 => (by rw [h0] at hr; cases hr), ?_⟩
  rw [hr]
  intro x hx
  simp only [List.mem_cons, List.not_mem_nil, or_false] at hx
  rcases hx with rfl | rfl
  · exact wpOp_step hoi (fun K' hK => hi K' (fun a w hS hW => hK a w ⟨fun _ => hS, hW hS⟩))
  · exact wpOp_step hoj (fun K' hK => hj K' (fun a w hS hW => hK a w ⟨fun _ => hS, hW hS⟩))
end
/-- A block as it is. -/
def blockThing (g : Nat) (o : Obj) : Thing := ⟨[g], fun w => w.heap[g]? = some o, fun _ _ h hk => (hk g (by simp)).trans h, fun _ h k hk => by simp at hk; subst hk; exact lt_of_heap h⟩
theorem At.block {w0 w : World} {L : List Thing} (h : At w0 w L) (i : Nat) {g : Nat} {o : Obj} (hi : L[i]? = some (blockThing g o)) : w.heap[g]? = some o := h.live.get hi
theorem At.tail {w0 w : World} {t : Thing} {L : List Thing} (h : At w0 w (t :: L)) : At w0 w L := ⟨h.below, ⟨fun s hs => h.live.all s (List.mem_cons_of_mem _ hs), h.live.apart.tail⟩⟩
def bytesObj (l : List UInt8) : Obj := .cells (l.map B).toArray 5 (0, 0)
def boolsObj (l : List Bool) : Obj := .cells (l.map Value.bool).toArray 4 (0, 0)
theorem run_copy_into {W : World} {g go o so n m c1 c2 : Nat} {t : TypeId} {img l : List UInt8} (hp : W.heap[g]? = some (.cells (img.map B).toArray t (0, 0))) (hs : W.rangeAt go so (l.map B)) (hl : l.length = n) (hm : n ≤ m) (ho : o + n ≤ img.length) (ty : TypeId) :
    (Builtin.copy_ #[29, 29] ty #[.slice (some ⟨g, o, none⟩) m c1, .slice (some ⟨go, so, none⟩) n c2]).run Try.prog W = .ok (.int .i64 n) (W.setRow g ((setAt img o l).map B).toArray) := by
  have := run_copy_row (P := Try.prog) W 29 29 ty 5 g o m c1 ⟨go, so, none⟩ n c2 (img.map B).toArray t (l.map B) Try.underlying29 (by kernel_rfl) hp (by simp [hl]; show n = min n m; omega)
    (fun j v hv => by rw [Addr.add_mid]; exact hs j v hv) (by simp [hl]; omega) (B_one l)
  rw [this]
  simp [goInt, hl, setAt]
theorem row_part {w : World} {g : Nat} {l : List UInt8} {t : TypeId} (h : w.heap[g]? = some (.cells (l.map B).toArray t (0, 0))) {p c : Nat} (hp : p * 256 + 256 ≤ l.length) (hc : 256 ≤ c) (hm : c ≤ maxLen) : BytesAt w (.slice (some ⟨g, p * 256, none⟩) 256 c) (pg l p) := by
  have hl : (pg l p).length = 256 := by unfold pg; rw [List.length_take, List.length_drop]; omega
  refine .inr ⟨g, p * 256, c, by rw [hl], by omega, hm, lt_of_heap h, fun j u hj => ?_⟩
  have hjl : j < 256 := by
    have := (List.getElem?_eq_some_iff.1 hj).1
    rw [List.length_map] at this
    omega
  rw [List.getElem?_map, pg_get, if_pos hjl] at hj
  rw [cell_of_row w g _ _ _ _ h, List.getElem?_toArray, List.getElem?_map]
  exact hj

set_option maxRecDepth 100000 in
set_option maxHeartbeats 6400000 in
theorem lasts_walk {w : World} (n : Int) (n0 : -9223372036854775808 ≤ n) (n1 : n ≤ 9223372036854775807) {v1 v2 v3 : Value} {ws1 : List Wr} {wss : List (List Wr)} {fts : List (List UInt8)}
    (h1 : WsAt w w.heap.size v1 ws1) (h2 : WssAt w v2 wss) (h3 : BssAt w v3 fts) (ok1 : ∀ o ∈ ws1, o.ok) (l1 : ws1.length ≤ 1048576) (l2 : ∀ x ∈ wss, x.length ≤ 1048576) (l3 : wss.length ≤ 1048576) :
    Calls Try.prog 5 #[.int .i64 n, v1, v2, v3] w fun e w' => e = .returned (.bool true) ∧ Below w.heap.size w w' := by
  obtain ⟨a1, c1, rfl, hc1, hm1⟩ := h1.form
  obtain ⟨a2, c2, rfl, hc2, hm2⟩ := h2.form
  obtain ⟨a3, c3, rfl, hc3, hm3⟩ := h3.form
  unfold maxLen at hm1 hm2 hm3
  have H0 := At.start w
  obtain ⟨m, hm⟩ : ∃ m, m = (n % 8).toNat + 3 := ⟨_, rfl⟩
  have cF := fun (w : World) => lFresh_any (w := w) n n0 n1
  rw [← hm] at cF
  have CF := Lib.hid cF
  have HW1 := Lib.hid h1
  have HW2 := Lib.hid h2
  have HW3 := Lib.hid h3
  have HO1 := Lib.hid ok1
  have HL2 := Lib.hid l2
  clear cF hm h1 h2 h3 ok1 l2
  go_enter Try.func5, Try.ntmps5
  go_wp2_with fail
  refine (CF.out w).mono ?_
  rintro e wa ⟨rfl, hka, Fa, hDa, hFa⟩
  have Hc := H0.add (t := diskThing _ _ Fa) hka hDa hFa
  clear hka hDa hFa H0 CF
  obtain ⟨d0, hd0⟩ : ∃ d0, d0 = D.new m := ⟨_, rfl⟩
  rw [← hd0] at Hc
  have cm0 : Calm d0 := by rw [hd0]; exact Calm.new m
  have e0 : d0.q = [] := by rw [hd0]; rfl
  have en0 : d0.n = m := by rw [hd0]; rfl
  have ei0 : d0.img = List.replicate (256 * m) 0 := by rw [hd0]; rfl
  have ee0 : d0.epoch = 0 := by rw [hd0]; rfl
  obtain ⟨b, hb⟩ : ∃ b, b = w.heap.size + 2 := ⟨_, rfl⟩
  rw [← hb] at Hc ⊢
  have okc := (Hc.disk 0 rfl).ok
  have m3 : 3 ≤ m := by rw [← en0]; exact okc.1
  have m4 : m ≤ 4096 := by rw [← en0]; exact okc.2.1
  have EN0 := Lib.hid en0
  have EQ0 := Lib.hid e0
  have EI0 := Lib.hid ei0
  have EE0 := Lib.hid ee0
  have CM0 := Lib.hid cm0
  clear hd0 en0 hb e0 ei0 ee0 cm0 okc
  go_wp2_with fail
  refine (pages_len (Hc.disk 0 rfl) EN0.out).mono ?_
  rintro e wb ⟨rfl, rfl⟩
  go_wp2_with fail
  refine (lLays_any (Hc.disk 0 rfl) CM0.out.dead CM0.out.armed (HW1.out.below Hc.below) (Hc.ge 0 rfl) HO1.out (by rw [EQ0.out]; simp; omega)).mono ?_
  rintro e w1 ⟨rfl, hk, F1, hD, hF⟩
  have H1 := Hc.upd 0 rfl hk (t' := diskThing _ _ F1) hD hF
  simp only [List.set_cons_succ, List.set_cons_zero] at H1
  clear hk hD hF Hc
  have cm1 := CM0.out.lays ws1
  obtain ⟨q1, q2, q3, q4, q5, q6, q7⟩ := D.lays_off CM0.out.armed ws1
  go_wp2_with fail
  refine (sync_thing (H1.disk 0 rfl) cm1).mono ?_
  rintro e w2 ⟨rfl, hk, F2, hD, hF⟩
  have H2 := H1.upd 0 rfl hk (t' := diskThing _ _ F2) hD hF
  simp only [List.set_cons_succ, List.set_cons_zero] at H2
  clear hk hD hF H1
  have cm2 := cm1.sync
  obtain ⟨d2, hd2⟩ : ∃ d2, d2 = (d0.lays ws1).sync := ⟨_, rfl⟩
  rw [← hd2] at H2 cm2
  have hq2 : d2.q = [] := by rw [hd2]; rfl
  have en2 : d2.n = m := by rw [hd2]; exact (D.act_n _).trans (q3.trans EN0.out)
  have ee2 : d2.epoch = 0 := by rw [hd2]; exact (D.act_epoch _).trans (q5.trans EE0.out)
  have ei2 : d2.img = synced (List.replicate (256 * m) 0) (ws1.map fun o => (o.at m, o.bytes)) := by
    rw [hd2]
    show synced (d0.lays ws1).img (d0.lays ws1).q = _
    rw [q4, q6, EQ0.out, List.nil_append, EN0.out, EI0.out]
  have EI2 := Lib.hid ei2
  have EE2 := Lib.hid ee2
  have EN2 := Lib.hid en2
  have HQ2 := Lib.hid hq2
  have CM2 := Lib.hid cm2
  have HH2 := Lib.hid H2
  clear hd2 cm1 en2 hq2 cm2 H2 ei2 ee2 q1 q2 q3 q4 q5 q6 q7
  obtain ⟨Z, hZ⟩ : ∃ Z, Z = List.replicate (256 * m) (0 : UInt8) := ⟨_, rfl⟩
  have hmk := make_bytes w2 (256 * m) (by omega)
  rw [← hZ, show ((256 * m : Nat) : Int) = 256 * (m : Int) from by omega] at hmk
  obtain ⟨w3, hw3⟩ : ∃ w3, w3 = w2.alloc (bytesObj Z) := ⟨_, rfl⟩
  rw [show Obj.cells (Z.map B).toArray 5 (0, 0) = bytesObj Z from rfl, ← hw3] at hmk
  obtain ⟨gk, hgk⟩ : ∃ gk, gk = w2.heap.size := ⟨_, rfl⟩
  rw [← hgk] at hmk
  have H3 := Lib.hid (HH2.out.add (w' := w3) (by rw [hw3]; exact (Keeps.refl _ _).alloc _) (t := blockThing gk (bytesObj Z)) (by rw [hw3, hgk]; exact heap_new_at rfl) (fun k hk' => .inr (by simp [blockThing] at hk'; omega)))
  have HMK := Lib.hid hmk
  have HZ := Lib.hid hZ
  have mw : IntKind.i64.wrap (256 * (m : Int)) = 256 * (m : Int) := IntWalk.i64_in _ (by omega)
  clear hmk hw3 hgk hZ HH2
  go_wp2_with (refine wl_makeSlice rfl 29 (.tmp 34) (.tmp 34) rfl ?_; refine ⟨_, _, HMK.out, ?_⟩; try simp only [Act.put, List.setIfInBounds_toArray, List.set_cons_zero, List.set_cons_succ, List.getElem_toArray, List.getElem_cons_zero, List.getElem_cons_succ])
  clear HMK
  go_loopw [12] (fun i wr => ∃ k : Nat, k ≤ ws1.length ∧ i = .int .i64 k ∧ At w wr [blockThing gk (bytesObj (synced Z ((ws1.take k).map fun o => (o.at m, o.bytes)))), diskThing b d2 F2]) (fun i _ => ws1.length - (intOf i).toNat)
  case atStart => exact ⟨0, Nat.zero_le _, rfl, H3.out⟩
  case round =>
    obtain ⟨k, hk, rfl, hat⟩ := hrel
    have HAT := Lib.hid hat
    clear hat H3
    by_cases hlt : k < ws1.length
    · obtain ⟨gw, ow, rfl, hgw, hwr⟩ : ∃ g o, a1 = some ⟨g, o, none⟩ ∧ g < w.heap.size ∧ w.rangeAt g o (ws1.flatMap Wr.cells) := by
        rcases HW1.out with ⟨h0, _⟩ | ⟨g, o, cap, hv, _, _, h2, h3, h4⟩
        · subst h0; simp at hlt
        · injection hv with e _ _
          exact ⟨g, o, e, h3, h4⟩
      obtain ⟨o, ho⟩ : ∃ o, o = ws1[k] := ⟨_, rfl⟩
      have hok : o.ok := HO1.out o (by rw [ho]; exact List.getElem_mem hlt)
      have hwk : w.rangeAt gw (ow + k * 5) o.cells := by
        obtain ⟨xs, zs, e, hl⟩ := ws_at HO1.out hlt
        rw [← hl, ho]
        rw [e] at hwr
        exact range_sub hwr
      have hwk2 := rangeAt_of_heap hwk (HAT.out.below.block gw hgw)
      have hgw2 : gw < wr.heap.size := by have := HAT.out.le; omega
      obtain ⟨p, hp⟩ : ∃ p, p = o.at m := ⟨_, rfl⟩
      have hpl : p < m := by rw [hp]; exact o.at_lt (by omega)
      have hoi := o.at_int (n := m) (by omega)
      rw [← hp] at hoi
      obtain ⟨KL, hKL⟩ : ∃ KL, KL = synced Z ((ws1.take k).map fun o => (o.at m, o.bytes)) := ⟨_, rfl⟩
      have hKl : KL.length = 256 * m := by
        rw [hKL]
        refine synced_length (by rw [HZ.out]; simp) fun x hx => ?_
        obtain ⟨o', _, rfl⟩ := List.mem_map.1 hx
        exact ⟨o'.at_lt (by omega), o'.bytes_length⟩
      have hKs : synced Z ((ws1.take (k + 1)).map fun o => (o.at m, o.bytes)) = setPage KL p o.bytes := by
        rw [List.take_succ_eq_append_getElem hlt, List.map_append, ← ho]
        show synced Z (_ ++ [(o.at m, o.bytes)]) = _
        rw [synced_snoc, ← hKL, ← hp]
      have hkb := HAT.out.block 0 rfl
      rw [← hKL] at hkb
      have hgk2 := lt_of_heap hkb
      have hKeep : ∀ wx, Keeps [gk] wr wx → wx.heap[gk]? = some (bytesObj (setPage KL p o.bytes)) → At w wx [blockThing gk (bytesObj (setPage KL p o.bytes)), diskThing b d2 F2] := fun wx hkx hbx => by
        have h := HAT.out.upd 0 rfl (t' := blockThing gk (bytesObj (setPage KL p o.bytes))) hkx hbx (From.refl _ _)
        simpa only [List.set_cons_zero] using h
      have hol : o.cells.length = 5 := by simp [Wr.cells, hok.1]
      have hu := Try.underlying39
      have hi : (Try.prog.info? 39).map (·.size) = some o.cells.length := by rw [size_wrote, hol]
      have b0 : (0 : Int) ≤ (k : Int) := by omega
      have b1 : (k : Int) < (ws1.length : Int) := by omega
      have r4 : IntKind.i64.wrap (256 * (p : Int)) = 256 * (p : Int) := IntWalk.i64_in _ (by omega)
      have r5 : (0 : Int) ≤ 256 * (p : Int) := by omega
      have r6 : 256 * (p : Int) ≤ 256 * (m : Int) := by omega
      have r7 : (256 * (p : Int)).toNat = 256 * p := by omega
      have r8 : ¬ 256 * m = 256 * p := by omega
      have r9 : p ≤ m := by omega
      have HOI := Lib.hid hoi
      have HKS := Lib.hid hKs
      have HKE := Lib.hid hKeep
      have HKL := Lib.hid hKl
      have HI := Lib.hid hi
      clear hwk hwr ho hp hoi hKL hKs hKeep hol hKl hi
      go_wp2_with fail
      refine wp_region_held_drew (S := (fun w' => w'.rangeAt gw (ow + k * 5) o.cells ∧ Keeps [gk] wr w')) (by kernel_rfl) ?_ (fun hHeld => ?_)
      · exact ⟨hwk2, (Keeps.refl _ _).drew⟩
      refine' wpAnyH_take (i := 0) (v := _) rfl (by kernel_rfl) (by kernel_rfl) (by kernel_rfl) (fun _ _ _ h => h) (Or.inl ⟨by rfl, ?_⟩) (by assumption) ?_
      rotate_left 1
      · (intro w0 hSw; (try dsimp only at hSw); go_split_ands; go_simp; (try with_reducible rfl))
      try simp only [Act.put, List.setIfInBounds_toArray, List.set_cons_zero, List.set_cons_succ, List.getElem_toArray, List.getElem_cons_zero, List.getElem_cons_succ]
      refine' wpAnyH_take (i := 1) (v := _) rfl (by kernel_rfl) (by kernel_rfl) (by kernel_rfl) (fun _ _ _ h => h) (Or.inl ⟨by rfl, ?_⟩) (by assumption) ?_
      rotate_left 1
      · (intro w0 hSw; (try dsimp only at hSw); go_split_ands; go_simp; (try with_reducible rfl))
      try simp only [Act.put, List.setIfInBounds_toArray, List.set_cons_zero, List.set_cons_succ, List.getElem_toArray, List.getElem_cons_zero, List.getElem_cons_succ]
      refine' wpAnyH_take (i := 2) (v := _) rfl (by kernel_rfl) (by kernel_rfl) (by kernel_rfl) (fun _ _ _ h => h) (Or.inl ⟨by rfl, ?_⟩) (by assumption) ?_
      rotate_left 1
      · (intro w0 hSw; (try dsimp only at hSw); go_split_ands; go_simp; (try with_reducible rfl))
      try simp only [Act.put, List.setIfInBounds_toArray, List.set_cons_zero, List.set_cons_succ, List.getElem_toArray, List.getElem_cons_zero, List.getElem_cons_succ]
      refine' wpAnyH_take (i := 3) (v := _) rfl (by kernel_rfl) (by kernel_rfl) (by kernel_rfl) (fun _ _ _ h => h) (Or.inl ⟨by rfl, ?_⟩) (by assumption) ?_
      rotate_left 1
      · (intro w0 hSw; (try dsimp only at hSw); go_split_ands; go_simp; (try with_reducible rfl))
      try simp only [Act.put, List.setIfInBounds_toArray, List.set_cons_zero, List.set_cons_succ, List.getElem_toArray, List.getElem_cons_zero, List.getElem_cons_succ]
      refine' wpAnyH_take (i := 4) (v := _) rfl (by kernel_rfl) (by kernel_rfl) (by kernel_rfl) (fun _ _ _ h => h) (yieldsIf_load_mid (by rfl) 39 (.tmp 45) rfl gw (ow + k * 5) rfl o.cells _ (fun _ h => h.1) hu rfl HI.out) (by assumption) ?_
      try simp only [Act.put, List.setIfInBounds_toArray, List.set_cons_zero, List.set_cons_succ, List.getElem_toArray, List.getElem_cons_zero, List.getElem_cons_succ]
      refine' wpAnyH_take (i := 5) (v := _) rfl (by kernel_rfl) (by kernel_rfl) (by kernel_rfl) (fun _ _ _ h => h) (Or.inl ⟨by rfl, ?_⟩) (by assumption) ?_
      rotate_left 1
      · (intro w0 hSw; (try dsimp only at hSw); go_split_ands; go_simp; (try with_reducible rfl))
      try simp only [Act.put, List.setIfInBounds_toArray, List.set_cons_zero, List.set_cons_succ, List.getElem_toArray, List.getElem_cons_zero, List.getElem_cons_succ]
      refine' wpAnyH_take (i := 9) (v := _) rfl (by kernel_rfl) (by kernel_rfl) (by kernel_rfl) (fun _ _ _ h => h) (Or.inl ⟨by rfl, ?_⟩) (by assumption) ?_
      rotate_left 1
      · (intro w0 hSw; (try dsimp only at hSw); go_split_ands; go_simp; (try with_reducible rfl))
      try simp only [Act.put, List.setIfInBounds_toArray, List.set_cons_zero, List.set_cons_succ, List.getElem_toArray, List.getElem_cons_zero, List.getElem_cons_succ]
      refine' wpAnyH_take (i := 10) (v := _) rfl (by kernel_rfl) (by kernel_rfl) (by kernel_rfl) (fun _ _ _ h => h) (Or.inl ⟨by rfl, ?_⟩) (by assumption) ?_
      rotate_left 1
      · (intro w0 hSw; (try dsimp only at hSw); go_split_ands; go_simp; (try with_reducible rfl))
      try simp only [Act.put, List.setIfInBounds_toArray, List.set_cons_zero, List.set_cons_succ, List.getElem_toArray, List.getElem_cons_zero, List.getElem_cons_succ]
      refine' wpAnyH_take (i := 11) (v := _) rfl (by kernel_rfl) (by kernel_rfl) (by kernel_rfl) (fun _ _ _ h => h) (Or.inl ⟨by rfl, ?_⟩) (by assumption) ?_
      rotate_left 1
      · (intro w0 hSw; (try dsimp only at hSw); go_split_ands; go_simp; (try with_reducible rfl))
      try simp only [Act.put, List.setIfInBounds_toArray, List.set_cons_zero, List.set_cons_succ, List.getElem_toArray, List.getElem_cons_zero, List.getElem_cons_succ]
      refine' wpAnyH_take (i := 12) (v := _) rfl (by kernel_rfl) (by kernel_rfl) (by kernel_rfl) (fun _ _ _ h => h) (yieldsIf_load_mid (by rfl) 39 (.tmp 53) rfl gw (ow + k * 5) rfl o.cells _ (fun _ h => h.1) hu rfl HI.out) (by assumption) ?_
      try simp only [Act.put, List.setIfInBounds_toArray, List.set_cons_zero, List.set_cons_succ, List.getElem_toArray, List.getElem_cons_zero, List.getElem_cons_succ]
      refine wpAnyH_ready (rs := [6]) (by kernel_rfl) (by simp) ?_
      refine AllReadyH.cons rfl (fun K hK => ?_) AllReadyH.nil
      have cOf := lOf_any (w := wr.drew) o hok m (by omega) (by omega)
      rw [HOI.out] at cOf
      go_simp
      refine cOf.mono ?_
      rintro e w6 ⟨rfl, hk6⟩
      obtain ⟨z1, z2⟩ := hHeld
      have sw6 := And.intro (rangeAt_of_heap z1 (hk6.block gw (by simpa using hgw2) (by simp))) (z2.trans (G := []) hk6 (by simp))
      have bw6 := (hk6.block gk (by simpa using hgk2) (by simp)).trans hkb
      have lw6 := hk6.size
      refine hK.out _ _ ?_ (fun hHeld => ?_)
      · exact sw6
      clear hK K
      try simp only [Act.put, List.setIfInBounds_toArray, List.set_cons_zero, List.set_cons_succ, List.getElem_toArray, List.getElem_cons_zero, List.getElem_cons_succ]
      refine' wpAnyH_take (i := 7) (v := _) rfl (by kernel_rfl) (by kernel_rfl) (by kernel_rfl) (fun _ _ _ h => h) (Or.inl ⟨by rfl, ?_⟩) (by assumption) ?_
      rotate_left 1
      · (intro w0 hSw; (try dsimp only at hSw); go_split_ands; go_simp; (try with_reducible rfl))
      try simp only [Act.put, List.setIfInBounds_toArray, List.set_cons_zero, List.set_cons_succ, List.getElem_toArray, List.getElem_cons_zero, List.getElem_cons_succ]
      refine' wpAnyH_take (i := 8) (v := _) rfl (by kernel_rfl) (by kernel_rfl) (by kernel_rfl) (fun _ _ _ h => h) (Or.inl ⟨by rfl, ?_⟩) (by assumption) ?_
      rotate_left 1
      · (intro w0 hSw; (try dsimp only at hSw); go_split_ands; go_simp; (try with_reducible rfl))
      try simp only [Act.put, List.setIfInBounds_toArray, List.set_cons_zero, List.set_cons_succ, List.getElem_toArray, List.getElem_cons_zero, List.getElem_cons_succ]
      refine wpAnyH_ready (rs := [13]) (by kernel_rfl) (by simp) ?_
      refine AllReadyH.cons rfl (fun K hK => ?_) AllReadyH.nil
      go_simp
      refine (lFilled_any (w := w6) o hok).mono ?_
      rintro e w7 ⟨gf, cf, rfl, hgf, hOF, hk7⟩
      obtain ⟨z1, z2⟩ := hHeld
      have sw7 := And.intro (rangeAt_of_heap z1 (hk7.block gw (by simp at lw6; omega) (by simp))) (z2.trans (G := []) hk7 (by simp))
      have bw7 := (hk7.block gk (by simp at lw6; omega) (by simp)).trans bw6
      have lw7 := hk7.size
      refine hK.out _ _ ?_ (fun hHeld => ?_)
      · exact sw7
      clear hK K
      try simp only [Act.put, List.setIfInBounds_toArray, List.set_cons_zero, List.set_cons_succ, List.getElem_toArray, List.getElem_cons_zero, List.getElem_cons_succ]
      have hrf : w7.rangeAt gf 0 (o.bytes.map B) := by
        rcases ownB_bytes hOF with ⟨h0, _⟩ | ⟨g', o', c', hv, _, _, _, h5⟩
        · have := o.bytes_length; rw [h0] at this; simp at this
        · injection hv with e _ _
          injection e with e
          injection e with e1 e2 _
          subst e1 e2
          exact h5
      have hcp := run_copy_into (o := 256 * p) (m := 256 * m - 256 * p) (c1 := 256 * m - 256 * p) (c2 := cf) bw7 hrf o.bytes_length (by omega) (by rw [HKL.out]; omega) 3
      have hset := setRow_heap w7 gk _ ((setAt KL (256 * p) o.bytes).map B).toArray _ _ bw7
      have hks : Keeps [gk] w7 (w7.setRow gk ((setAt KL (256 * p) o.bytes).map B).toArray) := ⟨rfl, rfl, rfl, by simp, fun k _ hn => setRow_other w7 gk k _ (by simpa using hn)⟩
      have hne : gw ≠ gk := by have := HAT.out.ge 0 rfl gk (by simp [blockThing]); omega
      refine wpAnyH_ready (rs := [14]) (by kernel_rfl) (by simp) ?_
      refine AllReadyH.cons rfl (fun K hK => ?_) AllReadyH.nil
      have hcq := run_builtin_copy hcp
      refine st_builtin rfl .copy #[.tmp 50, .tmp 55] #[29, 29] rfl ?_
      simp only [List.map_toArray, List.map_cons, List.map_nil]
      refine ⟨_, _, hcq, ?_⟩
      try simp only [Act.put, List.setIfInBounds_toArray, List.set_cons_zero, List.set_cons_succ, List.getElem_toArray, List.getElem_cons_zero, List.getElem_cons_succ]
      obtain ⟨z1, z2⟩ := hHeld
      have sz := And.intro (rangeAt_of_heap z1 (hks.block gw (by simp at lw6; omega) (by simpa using hne))) (z2.trans hks (by simp))
      refine hK.out _ _ ?_ (fun hHeld => ?_)
      · exact sz
      clear hK K
      try simp only [Act.put, List.setIfInBounds_toArray, List.set_cons_zero, List.set_cons_succ, List.getElem_toArray, List.getElem_cons_zero, List.getElem_cons_succ]
      refine wpAnyH_done (by kernel_rfl) ?_ _
      have hkk := HKE.out _ sz.2 (by rw [show setPage KL p o.bytes = setAt KL (256 * p) o.bytes from by rw [Nat.mul_comm]; rfl]; exact hset)
      have HKK := Lib.hid hkk
      clear hkk hset sz hks hcp
      go_wp2_with fail
      go_roundw
      case rel => exact ⟨k + 1, by omega, by go_num, by rw [HKS.out]; exact HKK.out⟩
      case measure => simp [intOf]; omega

    · have e : k = ws1.length := by omega
      have hfin : synced Z ((ws1.take k).map fun o => (o.at m, o.bytes)) = d2.img := by
        have e : k = ws1.length := by omega
        rw [e, List.take_length, EI2.out, HZ.out]
      have hat4 : At w wr [blockThing gk (bytesObj d2.img), diskThing b d2 F2] := by rw [← hfin]; exact HAT.out
      have hki : d2.img.length = 256 * m := by have h := (hat4.disk 1 rfl).ok.2.2.1; rw [EN2.out] at h; exact h
      obtain ⟨KI, hKI⟩ : ∃ KI, KI = d2.img := ⟨_, rfl⟩
      rw [← hKI] at hki
      rw [show blockThing gk (bytesObj d2.img) = blockThing gk (bytesObj KI) from by rw [hKI]] at hat4
      have hpg0 : ∀ p, p < m → (List.replicate m false)[p]? = some false → pg d2.img p = pg KI p := fun p _ _ => by rw [hKI]
      obtain ⟨w4, hw4⟩ : ∃ w4, w4 = wr.alloc (boolsObj (List.replicate m false)) := ⟨_, rfl⟩
      have hmb := make_bools wr m (by omega)
      rw [show Obj.cells ((List.replicate m false).map Value.bool).toArray 4 (0, 0) = boolsObj (List.replicate m false) from rfl, ← hw4] at hmb
      obtain ⟨gn, hgn⟩ : ∃ gn, gn = wr.heap.size := ⟨_, rfl⟩
      rw [← hgn] at hmb
      have H4 := Lib.hid (hat4.add (w' := w4) (by rw [hw4]; exact (Keeps.refl _ _).alloc _) (t := blockThing gn (boolsObj (List.replicate m false))) (by rw [hw4, hgn]; exact heap_new_at rfl) (fun k hk' => .inr (by simp [blockThing] at hk'; omega)))
      have HMB := Lib.hid hmb
      have KIL := Lib.hid hki
      have PG0 := Lib.hid hpg0
      have k1' : ¬ (k : Int) < (ws1.length : Int) := by omega
      clear hfin hat4 hki hKI hpg0 hmb hw4 hgn HAT EI2
      go_wp2_with (refine wl_makeSlice rfl 41 (.tmp 57) (.tmp 57) rfl ?_; refine ⟨_, _, HMB.out, ?_⟩; try simp only [Act.put, List.setIfInBounds_toArray, List.set_cons_zero, List.set_cons_succ, List.getElem_toArray, List.getElem_cons_zero, List.getElem_cons_succ])
      obtain ⟨w19, rfl⟩ : ∃ wo : World, wo = wr := ⟨_, rfl⟩
      go_loopw [14] (fun i wr => ∃ (k : Nat) (d : D) (F : List Nat) (N : List Bool), k ≤ wss.length ∧ i = .int .i64 k ∧ Calm d ∧ d.q = [] ∧ d.n = m ∧ 0 ≤ d.epoch ∧ d.epoch ≤ k ∧ N.length = m ∧ (∀ p, p < m → N[p]? = some false → pg d.img p = pg KI p) ∧
          At w wr [blockThing gn (boolsObj N), blockThing gk (bytesObj KI), diskThing b d F]) (fun i _ => wss.length - (intOf i).toNat)
      case atStart => exact ⟨0, d2, F2, List.replicate m false, Nat.zero_le _, rfl, CM2.out, HQ2.out, EN2.out, by rw [EE2.out]; exact Int.le_refl _, by rw [EE2.out]; omega, by simp, PG0.out, H4.out⟩
      case round =>
        obtain ⟨k, d, F, N, hk, rfl, hcm, hq, hn, hep0, hep1, hNl, hpg, hat⟩ := hrel
        have HCM := Lib.hid hcm
        have HQD := Lib.hid hq
        have HND := Lib.hid hn
        have HNL := Lib.hid hNl
        have HPG := Lib.hid hpg
        have HAT := Lib.hid hat
        clear hcm hq hn hNl hpg hat H4 HMB
        by_cases hlt2 : k < wss.length
        · obtain ⟨gl, ol, u, rfl, hgl, hcu, hwu, hoku⟩ := HW2.out.at hlt2
          have hwl := HL2.out _ (List.getElem_mem hlt2)
          obtain ⟨ws, hws⟩ : ∃ ws, ws = wss[k] := ⟨_, rfl⟩
          rw [← hws] at hwu hoku hwl
          obtain ⟨au, cu, rfl, hcu1, hcu2⟩ := hwu.form
          unfold maxLen at hcu2
          have hcell := fun (wx : World) (hb : Below w.heap.size w wx) => (World.cell?_of_block (w := w) (w' := wx) (a := ⟨gl, ol + k, none⟩) (hb.block gl hgl)).trans hcu
          have HCELL := Lib.hid hcell
          have HWU := Lib.hid hwu
          have HOKU := Lib.hid hoku
          have hl1 := hcell wr HAT.out.below
          have k0 : (0 : Int) ≤ (k : Int) := by omega
          have k1 : (k : Int) < (wss.length : Int) := by omega
          clear hws hcell hcu hwu hoku
          go_wp2_with fail
          refine (lLays_any (HAT.out.disk 2 rfl) HCM.out.dead HCM.out.armed (HWU.out.below HAT.out.below) (HAT.out.ge 2 rfl) HOKU.out (by rw [HQD.out]; simp; omega)).mono ?_
          rintro e w5 ⟨rfl, hk5, F5, hD, hF⟩
          have hat5 := HAT.out.upd 2 rfl hk5 (t' := diskThing _ _ F5) hD hF
          simp only [List.set_cons_succ, List.set_cons_zero] at hat5
          obtain ⟨q1, q2, q3, q4, q5, q6, q7⟩ := D.lays_off HCM.out.armed ws
          obtain ⟨d1, hd1⟩ : ∃ d1, d1 = d.lays ws := ⟨_, rfl⟩
          rw [← hd1] at hat5 q1 q2 q3 q4 q5 q6 q7
          rw [HQD.out, List.nil_append, HND.out] at q6
          have cm1 : Calm d1 := by rw [hd1]; exact HCM.out.lays ws
          have en1 : d1.n = m := q3.trans HND.out
          have ok1 := (hat5.disk 2 rfl).ok
          have hi1 : d1.img.length = 256 * m := by rw [← en1]; exact ok1.2.2.1
          have hqo : ∀ x ∈ d1.q, x.1 < m ∧ x.2.length = 256 := by rw [← en1]; exact ok1.2.2.2.1
          have hql : d1.q.length = ws.length := by rw [q6]; simp
          have hl5 := HCELL.out w5 hat5.below
          have CM1 := Lib.hid cm1
          have EN1 := Lib.hid en1
          have HI1 := Lib.hid hi1
          have HQO := Lib.hid hqo
          have HQL := Lib.hid hql
          have Q6 := Lib.hid q6
          have Q5 := Lib.hid q5
          have Q4 := Lib.hid q4
          have HAT5 := Lib.hid hat5
          clear hk5 hD hF hat5 q1 q2 q3 q4 q5 q6 q7 hd1 cm1 en1 ok1 hi1 hqo hql hl1
          go_wp2_with fail
          obtain ⟨w18, rfl⟩ : ∃ wo : World, wo = wr := ⟨_, rfl⟩
          go_loopw [15] (fun i wx => ∃ (j : Nat) (N' : List Bool), j ≤ ws.length ∧ i = .int .i64 j ∧ N'.length = m ∧ (∀ p, p < m → N'[p]? = some false → N[p]? = some false ∧ ∀ x ∈ ws.take j, x.at m ≠ p) ∧
              At w wx [blockThing gn (boolsObj N'), blockThing gk (bytesObj KI), diskThing b d1 F5]) (fun i _ => ws.length - (intOf i).toNat)
          case atStart => exact ⟨0, N, Nat.zero_le _, rfl, HNL.out, fun p _ h => ⟨h, by simp⟩, HAT5.out⟩
          case round =>
            obtain ⟨j, N', hj, rfl, hNl', hfl, hatj⟩ := hrel
            have NL := Lib.hid hNl'
            have HFL := Lib.hid hfl
            have HATJ := Lib.hid hatj
            clear hNl' hfl hatj hl5
            have hlj := HCELL.out wr HATJ.out.below
            by_cases hjl : j < ws.length
            · obtain ⟨gw, ow, rfl, hgw, hwr⟩ : ∃ g o, au = some ⟨g, o, none⟩ ∧ g < w.heap.size ∧ w.rangeAt g o (ws.flatMap Wr.cells) := by
                rcases HWU.out with ⟨h0, _⟩ | ⟨g, o, cap, hv, _, _, h2, h3, h4⟩
                · subst h0; simp at hjl
                · injection hv with e _ _
                  exact ⟨g, o, e, h3, h4⟩
              obtain ⟨o, ho⟩ : ∃ o, o = ws[j] := ⟨_, rfl⟩
              have hok : o.ok := HOKU.out o (by rw [ho]; exact List.getElem_mem hjl)
              have hwk : w.rangeAt gw (ow + j * 5) o.cells := by
                obtain ⟨xs, zs, e, hl⟩ := ws_at HOKU.out hjl
                rw [← hl, ho]
                rw [e] at hwr
                exact range_sub hwr
              have hwk2 := rangeAt_of_heap hwk (HATJ.out.below.block gw hgw)
              obtain ⟨p, hp⟩ : ∃ p, p = o.at m := ⟨_, rfl⟩
              have hpl : p < m := by rw [hp]; exact o.at_lt (by omega)
              have hoi := o.at_int (n := m) (by omega)
              rw [← hp] at hoi
              have hol : o.cells.length = 5 := by simp [Wr.cells, hok.1]
              have hi : (Try.prog.info? 39).map (·.size) = some o.cells.length := by rw [size_wrote, hol]
              have htk : ws.take (j + 1) = ws.take j ++ [o] := by rw [List.take_succ_eq_append_getElem hjl, ho]
              have b0 : (0 : Int) ≤ (j : Int) := by omega
              have b1 : (j : Int) < (ws.length : Int) := by omega
              have p0 : (0 : Int) ≤ (p : Int) := by omega
              have p1 : (p : Int) < (m : Int) := by omega
              have HRG := Lib.hid hwk2
              have HII := Lib.hid hi
              have HOI := Lib.hid hoi
              have HTK := Lib.hid htk
              have HPP := Lib.hid hp
              clear hwk hwk2 hwr ho hp hoi hol hi htk
              go_wp2_with (first | (refine wpList_load_mid rfl 39 (.tmp 87) rfl gw (ow + j * 5) (by rfl) o.cells _ HRG.out Try.underlying39 rfl HII.out ?_; try simp only [Act.put, List.setIfInBounds_toArray, List.set_cons_zero, List.set_cons_succ, List.getElem_toArray, List.getElem_cons_zero, List.getElem_cons_succ]))
              have cOf := lOf_any (w := wr) o hok m (by omega) (by omega)
              rw [HOI.out] at cOf
              refine cOf.mono ?_
              rintro e w6 ⟨rfl, hk6⟩
              have hat6 := HATJ.out.keep hk6
              have hn6 := hat6.block 0 rfl
              have hpN : p < N'.length := by rw [NL.out]; exact hpl
              have hc6 : w6.cell? ⟨gn, p, none⟩ = some (.bool N'[p]) := by
                rw [cell_of_row w6 gn p _ _ _ hn6, List.getElem?_toArray, List.getElem?_map, List.getElem?_eq_getElem hpN]
                rfl
              have hf6 := frozen_of_row w6 gn p _ _ hn6
              obtain ⟨nb, hnb⟩ : ∃ nb, nb = N'[p] := ⟨_, rfl⟩
              rw [← hnb] at hc6
              have hset := heap_setCell_same w6 gn p _ _ (.bool true) hn6
              have hset2 : (w6.setCell ⟨gn, p, none⟩ (.bool true)).heap[gn]? = some (boolsObj (N'.set p true)) := by
                rw [hset, boolsObj, List.setIfInBounds_toArray, List.map_set]
              have hat7 := hat6.upd 0 rfl (w' := w6.setCell ⟨gn, p, none⟩ (.bool true)) (t' := blockThing gn (boolsObj (N'.set p true))) ((Keeps.refl _ _).setCell (.inl (by simp [blockThing])) _) hset2 (From.refl _ _)
              simp only [List.set_cons_zero] at hat7
              have HAT7 := Lib.hid hat7
              clear cOf hat6 hn6 hnb hset hset2 hat7 hlj hk6
              go_wp2_with fail
              go_roundw
              case rel =>
                refine ⟨j + 1, N'.set p true, by omega, by go_num, by rw [List.length_set]; exact NL.out, fun p' hp' h => ?_, HAT7.out⟩
                rw [List.getElem?_set] at h
                by_cases hpp : p = p'
                · rw [if_pos hpp] at h
                  split at h <;> cases h
                · rw [if_neg hpp] at h
                  obtain ⟨h1, h2⟩ := HFL.out p' hp' h
                  refine ⟨h1, fun x hx => ?_⟩
                  rw [HTK.out] at hx
                  rcases List.mem_append.1 hx with hx | hx
                  · exact h2 x hx
                  · rw [List.mem_singleton.1 hx, ← HPP.out]; exact hpp
              case measure => simp [intOf]; omega
            · have j1 : ¬ (j : Int) < (ws.length : Int) := by omega
              have hflag : ∀ p, p < m → N'[p]? = some false → N[p]? = some false ∧ ∀ x ∈ d1.q, x.1 ≠ p := fun p hp h => by
                obtain ⟨h1, h2⟩ := HFL.out p hp h
                refine ⟨h1, fun x hx => ?_⟩
                rw [Q6.out] at hx
                obtain ⟨o, ho, rfl⟩ := List.mem_map.1 hx
                exact h2 o (by rw [show j = ws.length from by omega, List.take_length]; exact ho)
              have HFG := Lib.hid hflag
              clear hflag
              go_upto_if 95 with fail
              go_cut [] (fun wx => ∃ (d3 : D) (F8 : List Nat), Calm d3 ∧ d3.q = [] ∧ d3.n = m ∧ 0 ≤ d3.epoch ∧ d3.epoch ≤ ((k + 1 : Nat) : Int) ∧ (∀ p, p < m → N'[p]? = some false → pg d3.img p = pg KI p) ∧ At w wx [blockThing gn (boolsObj N'), blockThing gk (bytesObj KI), diskThing b d3 F8])
              case rest =>
                obtain ⟨d3, F8, hcm3, hq3, hn3, he30, he31, hpg3, hat8⟩ := hcut
                obtain ⟨wr, rfl⟩ : ∃ wo : World, wo = wc := ⟨_, rfl⟩
                have CM3 := Lib.hid hcm3
                have HQ3 := Lib.hid hq3
                have EN3 := Lib.hid hn3
                have EB30 := Lib.hid he30
                have EB31 := Lib.hid he31
                have PG3 := Lib.hid hpg3
                have H8 := Lib.hid hat8
                clear hcm3 hq3 hn3 he30 he31 hpg3 hat8
                have hI3 : d3.img.length = 256 * m := by have h := (H8.out.disk 2 rfl).ok.2.2.1; rw [EN3.out] at h; exact h
                have I3 := Lib.hid hI3
                clear hI3
                go_wp2_with fail
                refine (image_len (H8.out.disk 2 rfl) I3.out).mono ?_
                rintro e w9 ⟨g9, c9, rfl, hg9, hO, hk⟩
                obtain ⟨_, _, he9, hc9, hc9m, _⟩ := hO.row
                clear he9
                unfold maxLen at hc9m
                have H9 := Lib.hid (H8.out.add hk (t := bytesThing _ _) hO (fun k hk' => .inr (by simp [bytesThing, Value.ownBlock] at hk'; omega)))
                clear hO hk
                go_wp2_with fail
                go_loopw [17] (fun i wx => ∃ p : Nat, p ≤ m ∧ i = .int .i64 p ∧ At w wx [bytesThing (.slice (some ⟨g9, 0, none⟩) (256 * m) c9) d3.img, blockThing gn (boolsObj N'), blockThing gk (bytesObj KI), diskThing b d3 F8]) (fun i _ => m - (intOf i).toNat)
                case atStart => exact ⟨0, Nat.zero_le _, rfl, H9.out⟩
                case round =>
                  obtain ⟨p, hp, rfl, hat9⟩ := hrel
                  have HA9 := Lib.hid hat9
                  clear hat9
                  by_cases hpm : p < m
                  · have hpN : p < N'.length := by rw [NL.out]; exact hpm
                    obtain ⟨nb, hnb⟩ : ∃ nb, nb = N'[p] := ⟨_, rfl⟩
                    have hNp : N'[p]? = some nb := by rw [hnb]; exact List.getElem?_eq_getElem hpN
                    have hcn : wr.cell? ⟨gn, p, none⟩ = some (.bool nb) := by
                      rw [cell_of_row wr gn p _ _ _ (HA9.out.block 1 rfl), List.getElem?_toArray, List.getElem?_map, hNp]
                      rfl
                    have p0 : (0 : Int) ≤ (p : Int) := by omega
                    have p1 : (p : Int) < (m : Int) := by omega
                    have HNP := Lib.hid hNp
                    clear hnb hNp
                    cases nb with
                    | true =>
                      go_wp2_with fail
                      refine wp_region_held_drew (S := (fun w' => w'.cell? ⟨gn, p, none⟩ = some (.bool true))) (by kernel_rfl) ?_ (fun hHeld => ?_)
                      · exact hcn
                      refine' wpAnyH_take (i := 0) (v := _) rfl (by kernel_rfl) (by kernel_rfl) (by kernel_rfl) (fun _ _ _ h => h) (Or.inl ⟨by rfl, ?_⟩) (by assumption) ?_
                      rotate_left 1
                      · (intro w0 hSw; (try dsimp only at hSw); go_split_ands; go_simp; (try with_reducible rfl))
                      try simp only [Act.put, List.setIfInBounds_toArray, List.set_cons_zero, List.set_cons_succ, List.getElem_toArray, List.getElem_cons_zero, List.getElem_cons_succ]
                      refine' wpAnyH_take (i := 1) (v := _) rfl (by kernel_rfl) (by kernel_rfl) (by kernel_rfl) (fun _ _ _ h => h) (Or.inl ⟨by rfl, ?_⟩) (by assumption) ?_
                      rotate_left 1
                      · (intro w0 hSw; (try dsimp only at hSw); go_split_ands; go_simp; (try with_reducible rfl))
                      try simp only [Act.put, List.setIfInBounds_toArray, List.set_cons_zero, List.set_cons_succ, List.getElem_toArray, List.getElem_cons_zero, List.getElem_cons_succ]
                      refine' wpAnyH_take (i := 2) (v := _) rfl (by kernel_rfl) (by kernel_rfl) (by kernel_rfl) (fun _ _ _ h => h) (Or.inl ⟨by rfl, ?_⟩) (by assumption) ?_
                      rotate_left 1
                      · (intro w0 hSw; (try dsimp only at hSw); go_split_ands; go_simp; (try with_reducible rfl))
                      try simp only [Act.put, List.setIfInBounds_toArray, List.set_cons_zero, List.set_cons_succ, List.getElem_toArray, List.getElem_cons_zero, List.getElem_cons_succ]
                      refine' wpAnyH_take (i := 3) (v := _) rfl (by kernel_rfl) (by kernel_rfl) (by kernel_rfl) (fun _ _ _ h => h) (Or.inl ⟨by rfl, ?_⟩) (by assumption) ?_
                      rotate_left 1
                      · (intro w0 hSw; (try dsimp only at hSw); go_split_ands; go_simp; (try with_reducible rfl))
                      try simp only [Act.put, List.setIfInBounds_toArray, List.set_cons_zero, List.set_cons_succ, List.getElem_toArray, List.getElem_cons_zero, List.getElem_cons_succ]
                      refine' wpAnyH_take (i := 4) (v := _) rfl (by kernel_rfl) (by kernel_rfl) (by kernel_rfl) (fun _ _ _ h => h) (Or.inl ⟨by rfl, ?_⟩) (by assumption) ?_
                      rotate_left 1
                      · (intro w0 hSw; (try dsimp only at hSw); go_split_ands; go_simp; (try with_reducible rfl))
                      try simp only [Act.put, List.setIfInBounds_toArray, List.set_cons_zero, List.set_cons_succ, List.getElem_toArray, List.getElem_cons_zero, List.getElem_cons_succ]
                      refine' wpAnyH_take (i := 5) (v := _) rfl (by kernel_rfl) (by kernel_rfl) (by kernel_rfl) (fun _ _ _ h => h) (Or.inl ⟨by rfl, ?_⟩) (by assumption) ?_
                      rotate_left 1
                      · (intro w0 hSw; (try dsimp only at hSw); go_split_ands; go_simp; (try with_reducible rfl))
                      try simp only [Act.put, List.setIfInBounds_toArray, List.set_cons_zero, List.set_cons_succ, List.getElem_toArray, List.getElem_cons_zero, List.getElem_cons_succ]
                      refine' wpAnyH_take (i := 6) (v := undef) rfl (by kernel_rfl) (by kernel_rfl) (by kernel_rfl) (fun _ _ _ h => h) (Or.inr ⟨by rfl, rfl⟩) (by assumption) ?_
                      try simp only [Act.put, List.setIfInBounds_toArray, List.set_cons_zero, List.set_cons_succ, List.getElem_toArray, List.getElem_cons_zero, List.getElem_cons_succ]
                      refine' wpAnyH_take (i := 7) (v := undef) rfl (by kernel_rfl) (by kernel_rfl) (by kernel_rfl) (fun _ _ _ h => h) (Or.inr ⟨by rfl, rfl⟩) (by assumption) ?_
                      try simp only [Act.put, List.setIfInBounds_toArray, List.set_cons_zero, List.set_cons_succ, List.getElem_toArray, List.getElem_cons_zero, List.getElem_cons_succ]
                      refine' wpAnyH_take (i := 8) (v := undef) rfl (by kernel_rfl) (by kernel_rfl) (by kernel_rfl) (fun _ _ _ h => h) (Or.inr ⟨by rfl, rfl⟩) (by assumption) ?_
                      try simp only [Act.put, List.setIfInBounds_toArray, List.set_cons_zero, List.set_cons_succ, List.getElem_toArray, List.getElem_cons_zero, List.getElem_cons_succ]
                      refine' wpAnyH_take (i := 9) (v := undef) rfl (by kernel_rfl) (by kernel_rfl) (by kernel_rfl) (fun _ _ _ h => h) (Or.inr ⟨by rfl, rfl⟩) (by assumption) ?_
                      try simp only [Act.put, List.setIfInBounds_toArray, List.set_cons_zero, List.set_cons_succ, List.getElem_toArray, List.getElem_cons_zero, List.getElem_cons_succ]
                      refine' wpAnyH_take (i := 10) (v := undef) rfl (by kernel_rfl) (by kernel_rfl) (by kernel_rfl) (fun _ _ _ h => h) (Or.inr ⟨by rfl, rfl⟩) (by assumption) ?_
                      try simp only [Act.put, List.setIfInBounds_toArray, List.set_cons_zero, List.set_cons_succ, List.getElem_toArray, List.getElem_cons_zero, List.getElem_cons_succ]
                      refine' wpAnyH_take (i := 11) (v := undef) rfl (by kernel_rfl) (by kernel_rfl) (by kernel_rfl) (fun _ _ _ h => h) (Or.inr ⟨by rfl, rfl⟩) (by assumption) ?_
                      try simp only [Act.put, List.setIfInBounds_toArray, List.set_cons_zero, List.set_cons_succ, List.getElem_toArray, List.getElem_cons_zero, List.getElem_cons_succ]
                      refine' wpAnyH_take (i := 12) (v := undef) rfl (by kernel_rfl) (by kernel_rfl) (by kernel_rfl) (fun _ _ _ h => h) (Or.inr ⟨by rfl, rfl⟩) (by assumption) ?_
                      try simp only [Act.put, List.setIfInBounds_toArray, List.set_cons_zero, List.set_cons_succ, List.getElem_toArray, List.getElem_cons_zero, List.getElem_cons_succ]
                      refine' wpAnyH_take (i := 13) (v := undef) rfl (by kernel_rfl) (by kernel_rfl) (by kernel_rfl) (fun _ _ _ h => h) (Or.inr ⟨by rfl, rfl⟩) (by assumption) ?_
                      try simp only [Act.put, List.setIfInBounds_toArray, List.set_cons_zero, List.set_cons_succ, List.getElem_toArray, List.getElem_cons_zero, List.getElem_cons_succ]
                      refine' wpAnyH_take (i := 14) (v := undef) rfl (by kernel_rfl) (by kernel_rfl) (by kernel_rfl) (fun _ _ _ h => h) (Or.inr ⟨by rfl, rfl⟩) (by assumption) ?_
                      try simp only [Act.put, List.setIfInBounds_toArray, List.set_cons_zero, List.set_cons_succ, List.getElem_toArray, List.getElem_cons_zero, List.getElem_cons_succ]
                      refine' wpAnyH_take (i := 15) (v := undef) rfl (by kernel_rfl) (by kernel_rfl) (by kernel_rfl) (fun _ _ _ h => h) (Or.inr ⟨by rfl, rfl⟩) (by assumption) ?_
                      try simp only [Act.put, List.setIfInBounds_toArray, List.set_cons_zero, List.set_cons_succ, List.getElem_toArray, List.getElem_cons_zero, List.getElem_cons_succ]
                      refine' wpAnyH_take (i := 16) (v := undef) rfl (by kernel_rfl) (by kernel_rfl) (by kernel_rfl) (fun _ _ _ h => h) (Or.inr ⟨by rfl, rfl⟩) (by assumption) ?_
                      try simp only [Act.put, List.setIfInBounds_toArray, List.set_cons_zero, List.set_cons_succ, List.getElem_toArray, List.getElem_cons_zero, List.getElem_cons_succ]
                      refine' wpAnyH_take (i := 17) (v := undef) rfl (by kernel_rfl) (by kernel_rfl) (by kernel_rfl) (fun _ _ _ h => h) (Or.inr ⟨by rfl, rfl⟩) (by assumption) ?_
                      try simp only [Act.put, List.setIfInBounds_toArray, List.set_cons_zero, List.set_cons_succ, List.getElem_toArray, List.getElem_cons_zero, List.getElem_cons_succ]
                      refine' wpAnyH_take (i := 18) (v := undef) rfl (by kernel_rfl) (by kernel_rfl) (by kernel_rfl) (fun _ _ _ h => h) (Or.inr ⟨by rfl, rfl⟩) (by assumption) ?_
                      try simp only [Act.put, List.setIfInBounds_toArray, List.set_cons_zero, List.set_cons_succ, List.getElem_toArray, List.getElem_cons_zero, List.getElem_cons_succ]
                      refine' wpAnyH_take (i := 19) (v := undef) rfl (by kernel_rfl) (by kernel_rfl) (by kernel_rfl) (fun _ _ _ h => h) (Or.inr ⟨by rfl, rfl⟩) (by assumption) ?_
                      try simp only [Act.put, List.setIfInBounds_toArray, List.set_cons_zero, List.set_cons_succ, List.getElem_toArray, List.getElem_cons_zero, List.getElem_cons_succ]
                      refine' wpAnyH_take (i := 20) (v := undef) rfl (by kernel_rfl) (by kernel_rfl) (by kernel_rfl) (fun _ _ _ h => h) (Or.inr ⟨by rfl, rfl⟩) (by assumption) ?_
                      try simp only [Act.put, List.setIfInBounds_toArray, List.set_cons_zero, List.set_cons_succ, List.getElem_toArray, List.getElem_cons_zero, List.getElem_cons_succ]
                      refine' wpAnyH_take (i := 21) (v := undef) rfl (by kernel_rfl) (by kernel_rfl) (by kernel_rfl) (fun _ _ _ h => h) (Or.inr ⟨by rfl, rfl⟩) (by assumption) ?_
                      try simp only [Act.put, List.setIfInBounds_toArray, List.set_cons_zero, List.set_cons_succ, List.getElem_toArray, List.getElem_cons_zero, List.getElem_cons_succ]
                      refine' wpAnyH_take (i := 22) (v := undef) rfl (by kernel_rfl) (by kernel_rfl) (by kernel_rfl) (fun _ _ _ h => h) (Or.inr ⟨by rfl, rfl⟩) (by assumption) ?_
                      try simp only [Act.put, List.setIfInBounds_toArray, List.set_cons_zero, List.set_cons_succ, List.getElem_toArray, List.getElem_cons_zero, List.getElem_cons_succ]
                      refine' wpAnyH_take (i := 23) (v := undef) rfl (by kernel_rfl) (by kernel_rfl) (by kernel_rfl) (fun _ _ _ h => h) (Or.inr ⟨by rfl, rfl⟩) (by assumption) ?_
                      try simp only [Act.put, List.setIfInBounds_toArray, List.set_cons_zero, List.set_cons_succ, List.getElem_toArray, List.getElem_cons_zero, List.getElem_cons_succ]
                      refine' wpAnyH_take (i := 24) (v := undef) rfl (by kernel_rfl) (by kernel_rfl) (by kernel_rfl) (fun _ _ _ h => h) (Or.inr ⟨by rfl, rfl⟩) (by assumption) ?_
                      try simp only [Act.put, List.setIfInBounds_toArray, List.set_cons_zero, List.set_cons_succ, List.getElem_toArray, List.getElem_cons_zero, List.getElem_cons_succ]
                      refine' wpAnyH_take (i := 25) (v := undef) rfl (by kernel_rfl) (by kernel_rfl) (by kernel_rfl) (fun _ _ _ h => h) (Or.inr ⟨by rfl, rfl⟩) (by assumption) ?_
                      try simp only [Act.put, List.setIfInBounds_toArray, List.set_cons_zero, List.set_cons_succ, List.getElem_toArray, List.getElem_cons_zero, List.getElem_cons_succ]
                      refine wpAnyH_ready (rs := [26]) (by kernel_rfl) (by simp) ?_
                      refine AllReadyH.cons rfl (fun K hK => ?_) AllReadyH.nil
                      rw [if_neg]
                      rotate_left 1
                      · exact fun h => Bool.noConfusion (show false = true from h)
                      refine hK.out _ _ ?_ (fun hHeld => ?_)
                      · exact hcn
                      clear hK K
                      try simp only [Act.put, List.setIfInBounds_toArray, List.set_cons_zero, List.set_cons_succ, List.getElem_toArray, List.getElem_cons_zero, List.getElem_cons_succ]
                      refine' wpAnyH_take (i := 27) (v := undef) rfl (by kernel_rfl) (by kernel_rfl) (by kernel_rfl) (fun _ _ _ h => h) (Or.inr ⟨by rfl, rfl⟩) (by assumption) ?_
                      try simp only [Act.put, List.setIfInBounds_toArray, List.set_cons_zero, List.set_cons_succ, List.getElem_toArray, List.getElem_cons_zero, List.getElem_cons_succ]
                      refine' wpAnyH_take (i := 28) (v := undef) rfl (by kernel_rfl) (by kernel_rfl) (by kernel_rfl) (fun _ _ _ h => h) (Or.inr ⟨by rfl, rfl⟩) (by assumption) ?_
                      try simp only [Act.put, List.setIfInBounds_toArray, List.set_cons_zero, List.set_cons_succ, List.getElem_toArray, List.getElem_cons_zero, List.getElem_cons_succ]
                      refine' wpAnyH_take (i := 29) (v := _) rfl (by kernel_rfl) (by kernel_rfl) (by kernel_rfl) (fun _ _ _ h => h) (Or.inl ⟨by rfl, ?_⟩) (by assumption) ?_
                      rotate_left 1
                      · (intro w0 hSw; (try dsimp only at hSw); go_split_ands; go_simp; (try with_reducible rfl))
                      try simp only [Act.put, List.setIfInBounds_toArray, List.set_cons_zero, List.set_cons_succ, List.getElem_toArray, List.getElem_cons_zero, List.getElem_cons_succ]
                      refine wpAnyH_done (by kernel_rfl) ?_ _
                      go_wp2_with fail
                      go_roundw
                      case rel => exact ⟨p + 1, by omega, by go_num, HA9.out.keep ((Keeps.refl _ _).drewN _)⟩
                      case measure => simp [intOf]; omega
                    | false =>
                      have hb1 : BytesAt wr.drew (.slice (some ⟨g9, 256 * p, none⟩) 256 (c9 - 256 * p)) (pg d3.img p) := by
                        have h := ((HA9.out.keep (Keeps.refl _ _).drew).bytes 0 rfl).part p (by rw [I3.out]; omega) (c9 - p * 256) (by omega) (by unfold maxLen; omega)
                        rw [Nat.mul_comm p 256] at h
                        unfold pg
                        rw [Nat.mul_comm p 256]
                        exact h
                      have hb2 : BytesAt wr.drew (.slice (some ⟨gk, 256 * p, none⟩) 256 (256 * m - 256 * p)) (pg KI p) := by
                        have h := row_part (p := p) (c := 256 * m - 256 * p) ((HA9.out.keep (Keeps.refl _ _).drew).block 2 rfl) (by rw [KIL.out]; omega) (by omega) (by unfold maxLen; omega)
                        rw [Nat.mul_comm p 256] at h
                        exact h
                      have cS := same_true hb1 hb2 (PG3.out p hpm HNP.out)
                      have CS := Lib.hid cS
                      have x0 : ((256 * (m : Int)) != 256 * (m : Int)) = false := by simp
                      have r4 : IntKind.i64.wrap (256 * (p : Int)) = 256 * (p : Int) := IntWalk.i64_in _ (by omega)
                      have r5 : IntKind.i64.wrap (256 * (p : Int) + 256) = 256 * (p : Int) + 256 := IntWalk.i64_in _ (by omega)
                      have r6 : (0 : Int) ≤ 256 * (p : Int) := by omega
                      have r7 : (256 * (p : Int)).toNat = 256 * p := by omega
                      have r8 : (256 * (p : Int) + 256).toNat = 256 * p + 256 := by omega
                      have r9 : 256 * (p : Int) ≤ 256 * (p : Int) + 256 := by omega
                      have r10 : 256 * (p : Int) + 256 ≤ (c9 : Int) := by omega
                      have r11 : 256 * (p : Int) + 256 ≤ 256 * (m : Int) := by omega
                      have r12 : ¬ c9 = 256 * p := by omega
                      have r13 : ¬ 256 * m = 256 * p := by omega
                      have hgnl := lt_of_heap (HA9.out.block 1 rfl)
                      clear hb1 hb2 cS
                      go_wp2_with fail
                      refine wp_region_held_drew (S := (fun w' => w'.cell? ⟨gn, p, none⟩ = some (.bool false))) (by kernel_rfl) ?_ (fun hHeld => ?_)
                      · exact hcn
                      refine' wpAnyH_take (i := 0) (v := _) rfl (by kernel_rfl) (by kernel_rfl) (by kernel_rfl) (fun _ _ _ h => h) (Or.inl ⟨by rfl, ?_⟩) (by assumption) ?_
                      rotate_left 1
                      · (intro w0 hSw; (try dsimp only at hSw); go_split_ands; go_simp; (try with_reducible rfl))
                      try simp only [Act.put, List.setIfInBounds_toArray, List.set_cons_zero, List.set_cons_succ, List.getElem_toArray, List.getElem_cons_zero, List.getElem_cons_succ]
                      refine' wpAnyH_take (i := 1) (v := _) rfl (by kernel_rfl) (by kernel_rfl) (by kernel_rfl) (fun _ _ _ h => h) (Or.inl ⟨by rfl, ?_⟩) (by assumption) ?_
                      rotate_left 1
                      · (intro w0 hSw; (try dsimp only at hSw); go_split_ands; go_simp; (try with_reducible rfl))
                      try simp only [Act.put, List.setIfInBounds_toArray, List.set_cons_zero, List.set_cons_succ, List.getElem_toArray, List.getElem_cons_zero, List.getElem_cons_succ]
                      refine' wpAnyH_take (i := 2) (v := _) rfl (by kernel_rfl) (by kernel_rfl) (by kernel_rfl) (fun _ _ _ h => h) (Or.inl ⟨by rfl, ?_⟩) (by assumption) ?_
                      rotate_left 1
                      · (intro w0 hSw; (try dsimp only at hSw); go_split_ands; go_simp; (try with_reducible rfl))
                      try simp only [Act.put, List.setIfInBounds_toArray, List.set_cons_zero, List.set_cons_succ, List.getElem_toArray, List.getElem_cons_zero, List.getElem_cons_succ]
                      refine' wpAnyH_take (i := 3) (v := _) rfl (by kernel_rfl) (by kernel_rfl) (by kernel_rfl) (fun _ _ _ h => h) (Or.inl ⟨by rfl, ?_⟩) (by assumption) ?_
                      rotate_left 1
                      · (intro w0 hSw; (try dsimp only at hSw); go_split_ands; go_simp; (try with_reducible rfl))
                      try simp only [Act.put, List.setIfInBounds_toArray, List.set_cons_zero, List.set_cons_succ, List.getElem_toArray, List.getElem_cons_zero, List.getElem_cons_succ]
                      refine' wpAnyH_take (i := 4) (v := _) rfl (by kernel_rfl) (by kernel_rfl) (by kernel_rfl) (fun _ _ _ h => h) (Or.inl ⟨by rfl, ?_⟩) (by assumption) ?_
                      rotate_left 1
                      · (intro w0 hSw; (try dsimp only at hSw); go_split_ands; go_simp; (try with_reducible rfl))
                      try simp only [Act.put, List.setIfInBounds_toArray, List.set_cons_zero, List.set_cons_succ, List.getElem_toArray, List.getElem_cons_zero, List.getElem_cons_succ]
                      refine' wpAnyH_take (i := 5) (v := _) rfl (by kernel_rfl) (by kernel_rfl) (by kernel_rfl) (fun _ _ _ h => h) (Or.inl ⟨by rfl, ?_⟩) (by assumption) ?_
                      rotate_left 1
                      · (intro w0 hSw; (try dsimp only at hSw); go_split_ands; go_simp; (try with_reducible rfl))
                      try simp only [Act.put, List.setIfInBounds_toArray, List.set_cons_zero, List.set_cons_succ, List.getElem_toArray, List.getElem_cons_zero, List.getElem_cons_succ]
                      refine' wpAnyH_take (i := 6) (v := _) rfl (by kernel_rfl) (by kernel_rfl) (by kernel_rfl) (fun _ _ _ h => h) (Or.inl ⟨by rfl, ?_⟩) (by assumption) ?_
                      rotate_left 1
                      · (intro w0 hSw; (try dsimp only at hSw); go_split_ands; go_simp; (try with_reducible rfl))
                      try simp only [Act.put, List.setIfInBounds_toArray, List.set_cons_zero, List.set_cons_succ, List.getElem_toArray, List.getElem_cons_zero, List.getElem_cons_succ]
                      refine' wpAnyH_take (i := 7) (v := _) rfl (by kernel_rfl) (by kernel_rfl) (by kernel_rfl) (fun _ _ _ h => h) (Or.inl ⟨by rfl, ?_⟩) (by assumption) ?_
                      rotate_left 1
                      · (intro w0 hSw; (try dsimp only at hSw); go_split_ands; go_simp; (try with_reducible rfl))
                      try simp only [Act.put, List.setIfInBounds_toArray, List.set_cons_zero, List.set_cons_succ, List.getElem_toArray, List.getElem_cons_zero, List.getElem_cons_succ]
                      refine' wpAnyH_take (i := 8) (v := _) rfl (by kernel_rfl) (by kernel_rfl) (by kernel_rfl) (fun _ _ _ h => h) (Or.inl ⟨by rfl, ?_⟩) (by assumption) ?_
                      rotate_left 1
                      · (intro w0 hSw; (try dsimp only at hSw); go_split_ands; go_simp; (try with_reducible rfl))
                      try simp only [Act.put, List.setIfInBounds_toArray, List.set_cons_zero, List.set_cons_succ, List.getElem_toArray, List.getElem_cons_zero, List.getElem_cons_succ]
                      refine' wpAnyH_take (i := 9) (v := _) rfl (by kernel_rfl) (by kernel_rfl) (by kernel_rfl) (fun _ _ _ h => h) (Or.inl ⟨by rfl, ?_⟩) (by assumption) ?_
                      rotate_left 1
                      · (intro w0 hSw; (try dsimp only at hSw); go_split_ands; go_simp; (try with_reducible rfl))
                      try simp only [Act.put, List.setIfInBounds_toArray, List.set_cons_zero, List.set_cons_succ, List.getElem_toArray, List.getElem_cons_zero, List.getElem_cons_succ]
                      refine' wpAnyH_take (i := 10) (v := _) rfl (by kernel_rfl) (by kernel_rfl) (by kernel_rfl) (fun _ _ _ h => h) (Or.inl ⟨by rfl, ?_⟩) (by assumption) ?_
                      rotate_left 1
                      · (intro w0 hSw; (try dsimp only at hSw); go_split_ands; go_simp; (try with_reducible rfl))
                      try simp only [Act.put, List.setIfInBounds_toArray, List.set_cons_zero, List.set_cons_succ, List.getElem_toArray, List.getElem_cons_zero, List.getElem_cons_succ]
                      try simp only [bne_self_eq_false]
                      refine' wpAnyH_take (i := 11) (v := _) rfl (by kernel_rfl) (by kernel_rfl) (by kernel_rfl) (fun _ _ _ h => h) (Or.inl ⟨by rfl, ?_⟩) (by assumption) ?_
                      rotate_left 1
                      · (intro w0 hSw; (try dsimp only at hSw); go_split_ands; go_simp; (try with_reducible rfl))
                      try simp only [Act.put, List.setIfInBounds_toArray, List.set_cons_zero, List.set_cons_succ, List.getElem_toArray, List.getElem_cons_zero, List.getElem_cons_succ]
                      refine' wpAnyH_take (i := 12) (v := _) rfl (by kernel_rfl) (by kernel_rfl) (by kernel_rfl) (fun _ _ _ h => h) (Or.inl ⟨by rfl, ?_⟩) (by assumption) ?_
                      rotate_left 1
                      · (intro w0 hSw; (try dsimp only at hSw); go_split_ands; go_simp; (try with_reducible rfl))
                      try simp only [Act.put, List.setIfInBounds_toArray, List.set_cons_zero, List.set_cons_succ, List.getElem_toArray, List.getElem_cons_zero, List.getElem_cons_succ]
                      refine' wpAnyH_take (i := 13) (v := _) rfl (by kernel_rfl) (by kernel_rfl) (by kernel_rfl) (fun _ _ _ h => h) (Or.inl ⟨by rfl, ?_⟩) (by assumption) ?_
                      rotate_left 1
                      · (intro w0 hSw; (try dsimp only at hSw); go_split_ands; go_simp; (try with_reducible rfl))
                      try simp only [Act.put, List.setIfInBounds_toArray, List.set_cons_zero, List.set_cons_succ, List.getElem_toArray, List.getElem_cons_zero, List.getElem_cons_succ]
                      refine' wpAnyH_take (i := 14) (v := _) rfl (by kernel_rfl) (by kernel_rfl) (by kernel_rfl) (fun _ _ _ h => h) (Or.inl ⟨by rfl, ?_⟩) (by assumption) ?_
                      rotate_left 1
                      · (intro w0 hSw; (try dsimp only at hSw); go_split_ands; go_simp; (try with_reducible rfl))
                      try simp only [Act.put, List.setIfInBounds_toArray, List.set_cons_zero, List.set_cons_succ, List.getElem_toArray, List.getElem_cons_zero, List.getElem_cons_succ]
                      refine' wpAnyH_take (i := 15) (v := _) rfl (by kernel_rfl) (by kernel_rfl) (by kernel_rfl) (fun _ _ _ h => h) (Or.inl ⟨by rfl, ?_⟩) (by assumption) ?_
                      rotate_left 1
                      · (intro w0 hSw; (try dsimp only at hSw); go_split_ands; go_simp; (try with_reducible rfl))
                      try simp only [Act.put, List.setIfInBounds_toArray, List.set_cons_zero, List.set_cons_succ, List.getElem_toArray, List.getElem_cons_zero, List.getElem_cons_succ]
                      refine' wpAnyH_take (i := 16) (v := _) rfl (by kernel_rfl) (by kernel_rfl) (by kernel_rfl) (fun _ _ _ h => h) (Or.inl ⟨by rfl, ?_⟩) (by assumption) ?_
                      rotate_left 1
                      · (intro w0 hSw; (try dsimp only at hSw); go_split_ands; go_simp; (try with_reducible rfl))
                      try simp only [Act.put, List.setIfInBounds_toArray, List.set_cons_zero, List.set_cons_succ, List.getElem_toArray, List.getElem_cons_zero, List.getElem_cons_succ]
                      refine' wpAnyH_take (i := 17) (v := _) rfl (by kernel_rfl) (by kernel_rfl) (by kernel_rfl) (fun _ _ _ h => h) (Or.inl ⟨by rfl, ?_⟩) (by assumption) ?_
                      rotate_left 1
                      · (intro w0 hSw; (try dsimp only at hSw); go_split_ands; go_simp; (try with_reducible rfl))
                      try simp only [Act.put, List.setIfInBounds_toArray, List.set_cons_zero, List.set_cons_succ, List.getElem_toArray, List.getElem_cons_zero, List.getElem_cons_succ]
                      refine' wpAnyH_take (i := 18) (v := _) rfl (by kernel_rfl) (by kernel_rfl) (by kernel_rfl) (fun _ _ _ h => h) (Or.inl ⟨by rfl, ?_⟩) (by assumption) ?_
                      rotate_left 1
                      · (intro w0 hSw; (try dsimp only at hSw); go_split_ands; go_simp; (try with_reducible rfl))
                      try simp only [Act.put, List.setIfInBounds_toArray, List.set_cons_zero, List.set_cons_succ, List.getElem_toArray, List.getElem_cons_zero, List.getElem_cons_succ]
                      refine' wpAnyH_take (i := 19) (v := _) rfl (by kernel_rfl) (by kernel_rfl) (by kernel_rfl) (fun _ _ _ h => h) (Or.inl ⟨by rfl, ?_⟩) (by assumption) ?_
                      rotate_left 1
                      · (intro w0 hSw; (try dsimp only at hSw); go_split_ands; go_simp; (try with_reducible rfl))
                      try simp only [Act.put, List.setIfInBounds_toArray, List.set_cons_zero, List.set_cons_succ, List.getElem_toArray, List.getElem_cons_zero, List.getElem_cons_succ]
                      refine' wpAnyH_take (i := 20) (v := _) rfl (by kernel_rfl) (by kernel_rfl) (by kernel_rfl) (fun _ _ _ h => h) (Or.inl ⟨by rfl, ?_⟩) (by assumption) ?_
                      rotate_left 1
                      · (intro w0 hSw; (try dsimp only at hSw); go_split_ands; go_simp; (try with_reducible rfl))
                      try simp only [Act.put, List.setIfInBounds_toArray, List.set_cons_zero, List.set_cons_succ, List.getElem_toArray, List.getElem_cons_zero, List.getElem_cons_succ]
                      refine' wpAnyH_take (i := 21) (v := _) rfl (by kernel_rfl) (by kernel_rfl) (by kernel_rfl) (fun _ _ _ h => h) (Or.inl ⟨by rfl, ?_⟩) (by assumption) ?_
                      rotate_left 1
                      · (intro w0 hSw; (try dsimp only at hSw); go_split_ands; go_simp; (try with_reducible rfl))
                      try simp only [Act.put, List.setIfInBounds_toArray, List.set_cons_zero, List.set_cons_succ, List.getElem_toArray, List.getElem_cons_zero, List.getElem_cons_succ]
                      refine' wpAnyH_take (i := 22) (v := _) rfl (by kernel_rfl) (by kernel_rfl) (by kernel_rfl) (fun _ _ _ h => h) (Or.inl ⟨by rfl, ?_⟩) (by assumption) ?_
                      rotate_left 1
                      · (intro w0 hSw; (try dsimp only at hSw); go_split_ands; go_simp; (try with_reducible rfl))
                      try simp only [Act.put, List.setIfInBounds_toArray, List.set_cons_zero, List.set_cons_succ, List.getElem_toArray, List.getElem_cons_zero, List.getElem_cons_succ]
                      refine' wpAnyH_take (i := 23) (v := _) rfl (by kernel_rfl) (by kernel_rfl) (by kernel_rfl) (fun _ _ _ h => h) (Or.inl ⟨by rfl, ?_⟩) (by assumption) ?_
                      rotate_left 1
                      · (intro w0 hSw; (try dsimp only at hSw); go_split_ands; go_simp; (try with_reducible rfl))
                      try simp only [Act.put, List.setIfInBounds_toArray, List.set_cons_zero, List.set_cons_succ, List.getElem_toArray, List.getElem_cons_zero, List.getElem_cons_succ]
                      refine' wpAnyH_take (i := 24) (v := _) rfl (by kernel_rfl) (by kernel_rfl) (by kernel_rfl) (fun _ _ _ h => h) (Or.inl ⟨by rfl, ?_⟩) (by assumption) ?_
                      rotate_left 1
                      · (intro w0 hSw; (try dsimp only at hSw); go_split_ands; go_simp; (try with_reducible rfl))
                      try simp only [Act.put, List.setIfInBounds_toArray, List.set_cons_zero, List.set_cons_succ, List.getElem_toArray, List.getElem_cons_zero, List.getElem_cons_succ]
                      refine' wpAnyH_take (i := 25) (v := _) rfl (by kernel_rfl) (by kernel_rfl) (by kernel_rfl) (fun _ _ _ h => h) (Or.inl ⟨by rfl, ?_⟩) (by assumption) ?_
                      rotate_left 1
                      · (intro w0 hSw; (try dsimp only at hSw); go_split_ands; go_simp; (try with_reducible rfl))
                      try simp only [Act.put, List.setIfInBounds_toArray, List.set_cons_zero, List.set_cons_succ, List.getElem_toArray, List.getElem_cons_zero, List.getElem_cons_succ]
                      refine wpAnyH_ready (rs := [26]) (by kernel_rfl) (by simp) ?_
                      refine AllReadyH.cons rfl (fun K hK => ?_) AllReadyH.nil
                      go_simp
                      refine CS.out.mono ?_
                      rintro e w10 ⟨rfl, hk10⟩
                      refine hK.out _ _ ?_ (fun hHeld => ?_)
                      · exact (World.cell?_of_block (w := wr.drew) (w' := w10) (a := ⟨gn, p, none⟩) (hk10.block gn (by simpa using hgnl) (by simp))).trans hcn
                      clear hK K
                      try simp only [Act.put, List.setIfInBounds_toArray, List.set_cons_zero, List.set_cons_succ, List.getElem_toArray, List.getElem_cons_zero, List.getElem_cons_succ]
                      refine' wpAnyH_take (i := 27) (v := _) rfl (by kernel_rfl) (by kernel_rfl) (by kernel_rfl) (fun _ _ _ h => h) (Or.inl ⟨by rfl, ?_⟩) (by assumption) ?_
                      rotate_left 1
                      · (intro w0 hSw; (try dsimp only at hSw); go_split_ands; go_simp; (try with_reducible rfl))
                      try simp only [Act.put, List.setIfInBounds_toArray, List.set_cons_zero, List.set_cons_succ, List.getElem_toArray, List.getElem_cons_zero, List.getElem_cons_succ]
                      refine' wpAnyH_take (i := 28) (v := _) rfl (by kernel_rfl) (by kernel_rfl) (by kernel_rfl) (fun _ _ _ h => h) (Or.inl ⟨by rfl, ?_⟩) (by assumption) ?_
                      rotate_left 1
                      · (intro w0 hSw; (try dsimp only at hSw); go_split_ands; go_simp; (try with_reducible rfl))
                      try simp only [Act.put, List.setIfInBounds_toArray, List.set_cons_zero, List.set_cons_succ, List.getElem_toArray, List.getElem_cons_zero, List.getElem_cons_succ]
                      refine' wpAnyH_take (i := 29) (v := _) rfl (by kernel_rfl) (by kernel_rfl) (by kernel_rfl) (fun _ _ _ h => h) (Or.inl ⟨by rfl, ?_⟩) (by assumption) ?_
                      rotate_left 1
                      · (intro w0 hSw; (try dsimp only at hSw); go_split_ands; go_simp; (try with_reducible rfl))
                      try simp only [Act.put, List.setIfInBounds_toArray, List.set_cons_zero, List.set_cons_succ, List.getElem_toArray, List.getElem_cons_zero, List.getElem_cons_succ]
                      refine wpAnyH_done (by kernel_rfl) ?_ _
                      go_wp2_with fail
                      go_roundw
                      case rel => exact ⟨p + 1, by omega, by go_num, HA9.out.keep ((Keeps.refl _ _).drew.trans (G := []) hk10 (by simp))⟩
                      case measure => simp [intOf]; omega
                  · have p1 : ¬ (p : Int) < (m : Int) := by omega
                    go_wp2_with fail
                    go_roundw
                    case rel => exact ⟨k + 1, d3, F8, N', by omega, by go_num, CM3.out, HQ3.out, EN3.out, EB30.out, EB31.out, NL.out, PG3.out, HA9.out.tail⟩
                    case measure => simp [intOf]; omega

              by_cases hkf : k < fts.length
              · obtain ⟨gf, of, fv, rfl, hgf, hcf, hbf, hef⟩ := HW3.out.at hkf
                obtain ⟨ft, hft⟩ : ∃ ft, ft = fts[k] := ⟨_, rfl⟩
                rw [← hft] at hbf
                have hcellf := fun (wx : World) (hb : Below w.heap.size w wx) => (World.cell?_of_block (w := w) (w' := wx) (a := ⟨gf, of + k, none⟩) (hb.block gf hgf)).trans hcf
                have hdr : At w wr.drew _ := HATJ.out.keep (Keeps.refl _ _).drew
                have cC := crash_thing (hdr.disk 2 rfl) (hbf.below hdr.below hef) (fun i hi hm => by have h5 := hdr.ge 2 rfl i hm; have h6 := hef i hi; omega) HQL.out
                have hf1 := hcellf wr HATJ.out.below
                have kf : (k : Int) < (fts.length : Int) := by omega
                have x1 : ((ws.length : Int) != (ws.length : Int)) = false := by simp
                have CC := Lib.hid cC
                have HDR := Lib.hid hdr
                have HCF := Lib.hid hcellf
                clear hft hbf hef hcf hcellf hdr cC
                go_wp2_with fail
                refine wp_region_held_drew (S := (fun w' => w'.cell? ⟨gl, ol + k, none⟩ = some (.slice au ws.length cu) ∧ w'.cell? ⟨gf, of + k, none⟩ = some fv)) (by kernel_rfl) ?_ (fun hHeld => ?_)
                · exact ⟨hlj, hf1⟩
                refine' wpAnyH_take (i := 0) (v := _) rfl (by kernel_rfl) (by kernel_rfl) (by kernel_rfl) (fun _ _ _ h => h) (Or.inl ⟨by rfl, ?_⟩) (by assumption) ?_
                rotate_left 1
                · (intro w0 hSw; (try dsimp only at hSw); go_split_ands; go_simp; (try with_reducible rfl))
                try simp only [Act.put, List.setIfInBounds_toArray, List.set_cons_zero, List.set_cons_succ, List.getElem_toArray, List.getElem_cons_zero, List.getElem_cons_succ]
                refine' wpAnyH_take (i := 1) (v := _) rfl (by kernel_rfl) (by kernel_rfl) (by kernel_rfl) (fun _ _ _ h => h) (Or.inl ⟨by rfl, ?_⟩) (by assumption) ?_
                rotate_left 1
                · (intro w0 hSw; (try dsimp only at hSw); go_split_ands; go_simp; (try with_reducible rfl))
                try simp only [Act.put, List.setIfInBounds_toArray, List.set_cons_zero, List.set_cons_succ, List.getElem_toArray, List.getElem_cons_zero, List.getElem_cons_succ]
                refine' wpAnyH_take (i := 2) (v := _) rfl (by kernel_rfl) (by kernel_rfl) (by kernel_rfl) (fun _ _ _ h => h) (Or.inl ⟨by rfl, ?_⟩) (by assumption) ?_
                rotate_left 1
                · (intro w0 hSw; (try dsimp only at hSw); go_split_ands; go_simp; (try with_reducible rfl))
                try simp only [Act.put, List.setIfInBounds_toArray, List.set_cons_zero, List.set_cons_succ, List.getElem_toArray, List.getElem_cons_zero, List.getElem_cons_succ]
                refine' wpAnyH_take (i := 3) (v := _) rfl (by kernel_rfl) (by kernel_rfl) (by kernel_rfl) (fun _ _ _ h => h) (Or.inl ⟨by rfl, ?_⟩) (by assumption) ?_
                rotate_left 1
                · (intro w0 hSw; (try dsimp only at hSw); go_split_ands; go_simp; (try with_reducible rfl))
                try simp only [Act.put, List.setIfInBounds_toArray, List.set_cons_zero, List.set_cons_succ, List.getElem_toArray, List.getElem_cons_zero, List.getElem_cons_succ]
                refine' wpAnyH_take (i := 4) (v := _) rfl (by kernel_rfl) (by kernel_rfl) (by kernel_rfl) (fun _ _ _ h => h) (Or.inl ⟨by rfl, ?_⟩) (by assumption) ?_
                rotate_left 1
                · (intro w0 hSw; (try dsimp only at hSw); go_split_ands; go_simp; (try with_reducible rfl))
                try simp only [Act.put, List.setIfInBounds_toArray, List.set_cons_zero, List.set_cons_succ, List.getElem_toArray, List.getElem_cons_zero, List.getElem_cons_succ]
                refine' wpAnyH_take (i := 6) (v := _) rfl (by kernel_rfl) (by kernel_rfl) (by kernel_rfl) (fun _ _ _ h => h) (Or.inl ⟨by rfl, ?_⟩) (by assumption) ?_
                rotate_left 1
                · (intro w0 hSw; (try dsimp only at hSw); go_split_ands; go_simp; (try with_reducible rfl))
                try simp only [Act.put, List.setIfInBounds_toArray, List.set_cons_zero, List.set_cons_succ, List.getElem_toArray, List.getElem_cons_zero, List.getElem_cons_succ]
                refine' wpAnyH_take (i := 7) (v := _) rfl (by kernel_rfl) (by kernel_rfl) (by kernel_rfl) (fun _ _ _ h => h) (Or.inl ⟨by rfl, ?_⟩) (by assumption) ?_
                rotate_left 1
                · (intro w0 hSw; (try dsimp only at hSw); go_split_ands; go_simp; (try with_reducible rfl))
                try simp only [Act.put, List.setIfInBounds_toArray, List.set_cons_zero, List.set_cons_succ, List.getElem_toArray, List.getElem_cons_zero, List.getElem_cons_succ]
                refine' wpAnyH_take (i := 8) (v := _) rfl (by kernel_rfl) (by kernel_rfl) (by kernel_rfl) (fun _ _ _ h => h) (Or.inl ⟨by rfl, ?_⟩) (by assumption) ?_
                rotate_left 1
                · (intro w0 hSw; (try dsimp only at hSw); go_split_ands; go_simp; (try with_reducible rfl))
                try simp only [Act.put, List.setIfInBounds_toArray, List.set_cons_zero, List.set_cons_succ, List.getElem_toArray, List.getElem_cons_zero, List.getElem_cons_succ]
                refine' wpAnyH_take (i := 9) (v := _) rfl (by kernel_rfl) (by kernel_rfl) (by kernel_rfl) (fun _ _ _ h => h) (Or.inl ⟨by rfl, ?_⟩) (by assumption) ?_
                rotate_left 1
                · (intro w0 hSw; (try dsimp only at hSw); go_split_ands; go_simp; (try with_reducible rfl))
                try simp only [Act.put, List.setIfInBounds_toArray, List.set_cons_zero, List.set_cons_succ, List.getElem_toArray, List.getElem_cons_zero, List.getElem_cons_succ]
                refine' wpAnyH_take (i := 10) (v := _) rfl (by kernel_rfl) (by kernel_rfl) (by kernel_rfl) (fun _ _ _ h => h) (Or.inl ⟨by rfl, ?_⟩) (by assumption) ?_
                rotate_left 1
                · (intro w0 hSw; (try dsimp only at hSw); go_split_ands; go_simp; (try with_reducible rfl))
                try simp only [Act.put, List.setIfInBounds_toArray, List.set_cons_zero, List.set_cons_succ, List.getElem_toArray, List.getElem_cons_zero, List.getElem_cons_succ]
                refine wpAnyH_ready (rs := [5]) (by kernel_rfl) (by simp) ?_
                refine AllReadyH.cons rfl (fun K hK => ?_) AllReadyH.nil
                go_simp
                refine CC.out.mono ?_
                rintro e w8 ⟨rfl, hk, F8, hD, hF⟩
                have hat8 := HDR.out.upd 2 rfl hk (t' := diskThing _ _ F8) hD hF
                simp only [List.set_cons_succ, List.set_cons_zero] at hat8
                refine hK.out _ _ ?_ (fun hHeld => ?_)
                · exact ⟨HCELL.out w8 hat8.below, HCF.out w8 hat8.below⟩
                clear hK K
                try simp only [Act.put, List.setIfInBounds_toArray, List.set_cons_zero, List.set_cons_succ, List.getElem_toArray, List.getElem_cons_zero, List.getElem_cons_succ]
                refine' wpAnyH_take (i := 11) (v := _) rfl (by kernel_rfl) (by kernel_rfl) (by kernel_rfl) (fun _ _ _ h => h) (Or.inl ⟨by rfl, ?_⟩) (by assumption) ?_
                rotate_left 1
                · (intro w0 hSw; (try dsimp only at hSw); go_split_ands; go_simp; (try with_reducible rfl))
                try simp only [Act.put, List.setIfInBounds_toArray, List.set_cons_zero, List.set_cons_succ, List.getElem_toArray, List.getElem_cons_zero, List.getElem_cons_succ]
                refine wpAnyH_done (by kernel_rfl) ?_ _
                obtain ⟨d3, hd3⟩ : ∃ d3, d3 = d1.crash ft := ⟨_, rfl⟩
                rw [← hd3] at hat8
                have H8 := Lib.hid hat8
                have CM3 := Lib.hid (show Calm d3 by rw [hd3]; exact ⟨rfl, rfl⟩)
                have HQ3 := Lib.hid (show d3.q = [] by rw [hd3]; rfl)
                have EN3 := Lib.hid (show d3.n = m by rw [hd3]; exact EN1.out)
                have hepe : d3.epoch = d.epoch + 1 := by
                  rw [hd3]
                  show wrap64 (d1.epoch + 1) = _
                  rw [Q5.out]
                  unfold wrap64
                  omega
                have EB30 := Lib.hid (show 0 ≤ d3.epoch by omega)
                have EB31 := Lib.hid (show d3.epoch ≤ ((k + 1 : Nat) : Int) by omega)
                have hpg3 : ∀ p, p < m → N'[p]? = some false → pg d3.img p = pg KI p := fun p hp h => by
                  obtain ⟨h1, h2⟩ := HFG.out p hp h
                  rw [hd3]
                  show pg (crashed d1.img d1.q ft) p = _
                  rw [pg_crashed d1.q ft HI1.out HQO.out h2, Q4.out]
                  exact HPG.out p hp h1
                have PG3 := Lib.hid hpg3
                clear hk hD hF hat8 hd3 hepe hpg3 hHeld hlj hf1
                go_wp2_with fail
                go_meet
                case rel => exact ⟨d3, F8, CM3.out, HQ3.out, EN3.out, EB30.out, EB31.out, PG3.out, H8.out⟩
              · have kf : ¬ (k : Int) < (fts.length : Int) := by omega
                go_wp2_with fail
                refine (sync_thing (HATJ.out.disk 2 rfl) CM1.out).mono ?_
                rintro e w8 ⟨rfl, hk, F8, hD, hF⟩
                have hat8 := HATJ.out.upd 2 rfl hk (t' := diskThing _ _ F8) hD hF
                simp only [List.set_cons_succ, List.set_cons_zero] at hat8
                obtain ⟨d3, hd3⟩ : ∃ d3, d3 = d1.sync := ⟨_, rfl⟩
                rw [← hd3] at hat8
                have H8 := Lib.hid hat8
                have CM3 := Lib.hid (show Calm d3 by rw [hd3]; exact CM1.out.sync)
                have HQ3 := Lib.hid (show d3.q = [] by rw [hd3]; rfl)
                have EN3 := Lib.hid (show d3.n = m by rw [hd3]; exact (D.act_n _).trans EN1.out)
                have hepe : d3.epoch = d.epoch := by
                  rw [hd3]
                  exact (D.act_epoch _).trans Q5.out
                have EB30 := Lib.hid (show 0 ≤ d3.epoch by omega)
                have EB31 := Lib.hid (show d3.epoch ≤ ((k + 1 : Nat) : Int) by omega)
                have hpg3 : ∀ p, p < m → N'[p]? = some false → pg d3.img p = pg KI p := fun p hp h => by
                  obtain ⟨h1, h2⟩ := HFG.out p hp h
                  rw [hd3]
                  show pg (synced d1.img d1.q) p = _
                  rw [pg_synced d1.q HI1.out HQO.out h2, Q4.out]
                  exact HPG.out p hp h1
                have PG3 := Lib.hid hpg3
                clear hk hD hF hat8 hd3 hepe hpg3 hlj
                go_wp2_with fail
                go_meet
                case rel => exact ⟨d3, F8, CM3.out, HQ3.out, EN3.out, EB30.out, EB31.out, PG3.out, H8.out⟩
        · have k1 : ¬ (k : Int) < (wss.length : Int) := by omega
          go_wp2_with fail
          refine (power_thing (HAT.out.disk 2 rfl) (p := true) HCM.out.dead).mono ?_
          rintro e w' ⟨rfl, rfl⟩
          go_wp2_with fail
          obtain ⟨E, hE⟩ : ∃ E, E = d.epoch := ⟨_, rfl⟩
          rw [← hE] at hep0 hep1
          refine (epoch_thing (HAT.out.disk 2 rfl) hE.symm).mono ?_
          rintro e w' ⟨rfl, rfl⟩
          have hEl : E ≤ (wss.length : Int) := by omega
          clear hE
          go_wp2_with fail
          go_ret
          exact ⟨rfl, HAT.out.below⟩


end Go.Proofs.Ytbjffjplpnnhoaa
