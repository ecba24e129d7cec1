/-
  The walks of fresh and lays (layer 4's law).
-/
import Derived.Test.YtbjffjplpnnhoaaDlA
import Derived.Test.YtbjffjplpnnhoaaDkB
namespace Go.Proofs.Ytbjffjplpnnhoaa
set_option linter.unusedVariables false
set_option linter.unusedSimpArgs false
open Go.RowKit

theorem lFresh_any {w : World} (n : Int) (h0 : -9223372036854775808 ≤ n) (h1 : n ≤ 9223372036854775807) :
    Calls Try.prog 11 #[.int .i64 n] w fun e w' => e = .returned (.pointer (some ⟨w.heap.size + 2, 0, none⟩)) ∧ Keeps [] w w' ∧ ∃ F, DiskAt w' (w.heap.size + 2) (D.new ((n % 8).toNat + 3)) F ∧ From w [] F := by
  have hr1 := Int.tmod_lt_of_pos n (show (0 : Int) < 8 by omega)
  have hr2 := Int.lt_tmod_of_pos n (show (0 : Int) < 8 by omega)
  have hm1 := Int.emod_nonneg n (show (8 : Int) ≠ 0 by omega)
  have hm2 := Int.emod_lt_of_pos n (show (0 : Int) < 8 by omega)
  obtain ⟨m, hm⟩ : ∃ m : Nat, (m : Int) = n % 8 := ⟨(n % 8).toNat, by omega⟩
  have hmt : (n % 8).toNat = m := by omega
  rw [hmt]
  have hm8 : m < 8 := by omega
  have base : ∀ v : Int, v = (m : Int) + 3 → Calls Try.prog 35 #[.int .i64 v] w fun e w' => e = .returned (.tuple #[.pointer (some ⟨w.heap.size + 2, 0, none⟩), .int .i64 0]) ∧ Keeps [] w w' ∧ ∃ F, DiskAt w' (w.heap.size + 2) (D.new (m + 3)) F ∧ From w [] F := by
    rintro v rfl
    have := dNew_yes (w := w) (m + 3) (by omega) (by omega)
    simpa using this
  have hneg : n.tmod 8 < 0 → n.tmod 8 + 8 = (m : Int) := fun h => by rw [emod_of_neg (by omega) h, hm]
  have hpos : 0 ≤ n.tmod 8 → n.tmod 8 = (m : Int) := fun h => by rw [emod_of_nonneg (by omega) h, hm]
  have HM := Lib.hid hm
  clear hm hmt hm1 hm2
  by_cases hs : n.tmod 8 < 0
  · have e := hneg hs
    clear hneg hpos
    have HE := Lib.hid e
    clear e
    go_enter Try.func11, Try.ntmps11
    go_wp2_with fail
    refine (base _ (by rw [HE.out])).mono ?_
    rintro e w1 ⟨rfl, hk1, F, hF, hFr⟩
    obtain ⟨bp, qv, bm, hI, rfl⟩ := hF
    have e4 := hI.cells.2.2.2.2.1
    simp only [D.new] at e4
    have t1 : (((m : Int) + 3) != n.tmod 8 + 8 + 3) = false := by rw [HE.out]; simp
    go_wp2_with (go_at_call 16; refine (dPages_any e4).mono ?_; rintro e w' ⟨rfl, rfl⟩)
    go_ret
    exact ⟨rfl, hk1, _, ⟨bp, qv, bm, hI, rfl⟩, hFr⟩
  · have e := hpos (by omega)
    clear hneg hpos
    have HE := Lib.hid e
    clear e
    go_enter Try.func11, Try.ntmps11
    go_wp2_with fail
    refine (base _ (by rw [HE.out])).mono ?_
    rintro e w1 ⟨rfl, hk1, F, hF, hFr⟩
    obtain ⟨bp, qv, bm, hI, rfl⟩ := hF
    have e4 := hI.cells.2.2.2.2.1
    simp only [D.new] at e4
    have t1 : (((m : Int) + 3) != n.tmod 8 + 3) = false := by rw [HE.out]; simp
    go_wp2_with (go_at_call 16; refine (dPages_any e4).mono ?_; rintro e w' ⟨rfl, rfl⟩)
    go_ret
    exact ⟨rfl, hk1, _, ⟨bp, qv, bm, hI, rfl⟩, hFr⟩

/-- The argument: a slice of writes, in a block below n. -/
def WsAt (w : World) (n : Nat) (v : Value) (ws : List Wr) : Prop :=
  (ws = [] ∧ ∃ a c, v = .slice a 0 c ∧ c ≤ maxLen) ∨ ∃ g o cap, v = .slice (some ⟨g, o, none⟩) ws.length cap ∧ ws.length ≤ cap ∧ cap ≤ maxLen ∧ g < n ∧ g < w.heap.size ∧ w.rangeAt g o (ws.flatMap Wr.cells)
/-- Which page of so many. -/
def Wr.at (o : Wr) (n : Nat) : Nat := (o.page % (n : Int)).toNat
theorem Wr.at_lt (o : Wr) {n : Nat} (h : 0 < n) : o.at n < n := by
  have h1 := Int.emod_nonneg o.page (show (n : Int) ≠ 0 by omega)
  have h2 := Int.emod_lt_of_pos o.page (show (0 : Int) < (n : Int) by omega)
  unfold Wr.at; omega
theorem Wr.at_int (o : Wr) {n : Nat} (h : 0 < n) : o.page % (n : Int) = (o.at n : Int) := by
  have h1 := Int.emod_nonneg o.page (show (n : Int) ≠ 0 by omega)
  unfold Wr.at; omega
def D.lays (d : D) (ws : List Wr) : D := ws.foldl (fun d o => d.write (o.at d.n) o.bytes) d
theorem WsAt.form {w : World} {n : Nat} {v : Value} {ws : List Wr} (h : WsAt w n v ws) : ∃ a c, v = .slice a ws.length c ∧ ws.length ≤ c ∧ c ≤ maxLen := by
  rcases h with ⟨rfl, a, c, rfl, hc⟩ | ⟨g, o, cap, rfl, h1, h2, _⟩
  · exact ⟨a, c, rfl, Nat.zero_le _, hc⟩
  · exact ⟨_, _, rfl, h1, h2⟩
theorem WsAt.below {w w' : World} {n : Nat} {v : Value} {ws : List Wr} (h : WsAt w n v ws) (hb : Below n w w') : WsAt w' n v ws := by
  rcases h with h | ⟨g, o, cap, rfl, h1, h2, h3, h4, h5⟩
  · exact .inl h
  · exact .inr ⟨g, o, cap, rfl, h1, h2, h3, Nat.lt_of_lt_of_le h4 hb.size, rangeAt_of_heap h5 (hb.block g h3)⟩
theorem D.act_off {d : D} (h : d.armed = 0) : d.act = d := by simp [D.act, h]
theorem D.write_off {d : D} (h : d.armed = 0) (p : Nat) (l : List UInt8) : d.write p l = { d with q := d.q ++ [(p, l)], writes := wrap64 (d.writes + 1) } := by
  unfold D.write; rw [D.act_off (by exact h)]
theorem D.lays_snoc (d : D) (ws : List Wr) (o : Wr) : d.lays (ws ++ [o]) = (d.lays ws).write (o.at (d.lays ws).n) o.bytes := by simp [D.lays]
theorem D.lays_off {d : D} (h : d.armed = 0) : ∀ ws : List Wr, (d.lays ws).armed = 0 ∧ (d.lays ws).dead = d.dead ∧ (d.lays ws).n = d.n ∧ (d.lays ws).img = d.img ∧ (d.lays ws).epoch = d.epoch ∧ (d.lays ws).q = d.q ++ ws.map (fun o => ((o.at d.n), o.bytes)) ∧ (d.lays ws).syncs = d.syncs := by
  intro ws
  suffices hs : ∀ r : List Wr, (d.lays r.reverse).armed = 0 ∧ (d.lays r.reverse).dead = d.dead ∧ (d.lays r.reverse).n = d.n ∧ (d.lays r.reverse).img = d.img ∧ (d.lays r.reverse).epoch = d.epoch ∧ (d.lays r.reverse).q = d.q ++ r.reverse.map (fun o => ((o.at d.n), o.bytes)) ∧ (d.lays r.reverse).syncs = d.syncs by
    have := hs ws.reverse
    simpa using this
  intro r
  induction r with
  | nil => simp [D.lays, h]
  | cons o r ih =>
    obtain ⟨i1, i2, i3, i4, i5, i6, i7⟩ := ih
    rw [List.reverse_cons, D.lays_snoc, D.write_off i1]
    refine ⟨i1, i2, i3, i4, i5, ?_, i7⟩
    simp only [i6, i3, List.map_append, List.map_cons, List.map_nil, List.append_assoc]
theorem Wr.bytes_length (o : Wr) : o.bytes.length = 256 := by simp [Wr.bytes]
theorem ws_at {ws : List Wr} (hw : ∀ o ∈ ws, o.ok) {k : Nat} (hk : k < ws.length) : ∃ xs zs, ws.flatMap Wr.cells = xs ++ ws[k].cells ++ zs ∧ xs.length = k * 5 := by
  have e : ws = ws.take k ++ ws[k] :: ws.drop (k + 1) := by simp
  have e2 := congrArg (fun l => l.flatMap Wr.cells) e
  simp only [List.flatMap_append, List.flatMap_cons] at e2
  refine ⟨(ws.take k).flatMap Wr.cells, (ws.drop (k + 1)).flatMap Wr.cells, by rw [List.append_assoc]; exact e2, ?_⟩
  have : ∀ r : List Wr, (∀ o ∈ r, o.ok) → (r.flatMap Wr.cells).length = r.length * 5 := by
    intro r
    induction r with
    | nil => simp
    | cons x r ih =>
      intro h
      have h1 := ih (fun p hp => h p (by simp [hp]))
      have h2 := (h x (by simp)).1
      simp only [List.flatMap_cons, List.length_append, Wr.cells, List.length_cons, List.length_map] at h1 ⊢
      omega
  rw [this _ (fun p hp => hw p (List.mem_of_mem_take hp))]
  simp
  omega
theorem range_sub {w : World} {g o : Nat} {xs ys zs : List Value} (h : w.rangeAt g o (xs ++ ys ++ zs)) : w.rangeAt g (o + xs.length) ys := fun j v hv => by
  rw [Nat.add_assoc]
  refine h (xs.length + j) v ?_
  have hj := (List.getElem?_eq_some_iff.1 hv).1
  rw [List.getElem?_append_left (by simp; omega), List.getElem?_append_right (by omega)]
  simpa using hv
theorem size_wrote : (Try.prog.info? 39).map (·.size) = some 5 := by kernel_rfl

set_option maxRecDepth 100000 in
set_option maxHeartbeats 800000 in
theorem lLays_any {w : World} {b : Nat} {d : D} {F : List Nat} {v : Value} {ws : List Wr} (hD : DiskAt w b d F) (hd : d.dead = false) (ha : d.armed = 0) {nb : Nat} (hv : WsAt w nb v ws) (hvd : ∀ k ∈ F, nb ≤ k) (hws : ∀ o ∈ ws, o.ok) (hq : d.q.length + ws.length ≤ 4294967296) :
    Calls Try.prog 12 #[.pointer (some ⟨b, 0, none⟩), v] w fun e w' => e = .returned (.bool true) ∧ Keeps F w w' ∧ ∃ F', DiskAt w' b (d.lays ws) F' ∧ From w F F' := by
  obtain ⟨a, c, rfl, hc1, hc2⟩ := hv.form
  unfold maxLen at hc2
  have HD := Lib.hid hd
  have HA := Lib.hid ha
  clear hd ha
  go_enter Try.func12, Try.ntmps12
  go_wp2_with fail
  go_loopw [5] (fun i wr => ∃ k : Nat, k ≤ ws.length ∧ i = .int .i64 k ∧ Keeps F w wr ∧ ∃ Fr, DiskAt wr b (d.lays (ws.take k)) Fr ∧ From w F Fr) (fun i _ => ws.length - (intOf i).toNat)
  case atStart => exact ⟨0, Nat.zero_le _, rfl, Keeps.refl _ _, F, by simpa [D.lays] using hD, From.refl _ _⟩
  case round =>
    obtain ⟨k, hk, rfl, hkr, Fr, hDr, hFr⟩ := hrel
    by_cases hlt : k < ws.length
    · obtain ⟨gw, ow, rfl, hgw, hwr, hgn⟩ : ∃ g o, a = some ⟨g, o, none⟩ ∧ g < w.heap.size ∧ w.rangeAt g o (ws.flatMap Wr.cells) ∧ g < nb := by
        rcases hv with ⟨h0, _⟩ | ⟨g, o, cap, hv, _, _, h2, h3, h4⟩
        · subst h0; simp at hlt
        · injection hv with e _ _
          exact ⟨g, o, e, h3, h4, h2⟩
      have hgwF : gw ∉ F := fun hm => by have := hvd gw hm; omega
      obtain ⟨o, ho⟩ : ∃ o, o = ws[k] := ⟨_, rfl⟩
      have hok : o.ok := hws o (by rw [ho]; exact List.getElem_mem hlt)
      have hwk : w.rangeAt gw (ow + k * 5) o.cells := by
        obtain ⟨xs, zs, e, hl⟩ := ws_at hws hlt
        rw [← hl, ho]
        rw [e] at hwr
        exact range_sub hwr
      have hwk2 : wr.rangeAt gw (ow + k * 5) o.cells := rangeAt_of_heap hwk (hkr.block gw hgw hgwF)
      obtain ⟨l1, l2, l3, l4, l5, l6, l7⟩ := D.lays_off HA.out (ws.take k)
      obtain ⟨dr, hdr⟩ : ∃ dr, dr = d.lays (ws.take k) := ⟨_, rfl⟩
      have hnext : d.lays (ws.take (k + 1)) = dr.write (o.at dr.n) o.bytes := by rw [List.take_succ_eq_append_getElem hlt, D.lays_snoc, hdr, ho]
      rw [← hdr] at hDr l1 l2 l3 l4 l5 l6 l7
      obtain ⟨bp, qv, bm, hI, rfl⟩ := hDr
      have HF := Lib.hid hFr
      have HDR := Lib.hid hdr
      have HNX := Lib.hid hnext
      have HO := Lib.hid ho
      have hol : o.cells.length = 5 := by simp [Wr.cells, hok.1]
      have hu := Try.underlying39
      have hi : (Try.prog.info? 39).map (·.size) = some o.cells.length := by rw [size_wrote, hol]
      have b0 : (0 : Int) ≤ (k : Int) := by omega
      have b1 : (k : Int) < (ws.length : Int) := by omega
      have hql : dr.q.length < 4294967296 := by rw [l6]; simp; omega
      have hdd : dr.dead = false := l2.trans HD.out
      have hn3 := hI.ok.1
      have hn4 := hI.ok.2.1
      clear hdr hnext ho hFr l2 l3 l4 l5 l6 l7 hv hD
      go_wp2_with fail
      refine wp_region_held_drew (S := (fun w' => w'.rangeAt gw (ow + k * 5) o.cells)) (by kernel_rfl) ?_ (fun hHeld => ?_)
      · exact hwk2
      refine' wpAnyH_take (i := 0) (v := _) rfl (by kernel_rfl) (by kernel_rfl) (by kernel_rfl) (fun _ _ _ h => h) (Or.inl ⟨by rfl, ?_⟩) (by assumption) ?_
      rotate_left 1
      · (intro w0 hSw; (try dsimp only at hSw); go_split_ands; go_simp; (try with_reducible rfl))
      try simp only [Act.put, List.setIfInBounds_toArray, List.set_cons_zero, List.set_cons_succ, List.getElem_toArray, List.getElem_cons_zero, List.getElem_cons_succ]
      refine' wpAnyH_take (i := 1) (v := _) rfl (by kernel_rfl) (by kernel_rfl) (by kernel_rfl) (fun _ _ _ h => h) (Or.inl ⟨by rfl, ?_⟩) (by assumption) ?_
      rotate_left 1
      · (intro w0 hSw; (try dsimp only at hSw); go_split_ands; go_simp; (try with_reducible rfl))
      try simp only [Act.put, List.setIfInBounds_toArray, List.set_cons_zero, List.set_cons_succ, List.getElem_toArray, List.getElem_cons_zero, List.getElem_cons_succ]
      refine' wpAnyH_take (i := 2) (v := _) rfl (by kernel_rfl) (by kernel_rfl) (by kernel_rfl) (fun _ _ _ h => h) (Or.inl ⟨by rfl, ?_⟩) (by assumption) ?_
      rotate_left 1
      · (intro w0 hSw; (try dsimp only at hSw); go_split_ands; go_simp; (try with_reducible rfl))
      try simp only [Act.put, List.setIfInBounds_toArray, List.set_cons_zero, List.set_cons_succ, List.getElem_toArray, List.getElem_cons_zero, List.getElem_cons_succ]
      refine' wpAnyH_take (i := 3) (v := _) rfl (by kernel_rfl) (by kernel_rfl) (by kernel_rfl) (fun _ _ _ h => h) (Or.inl ⟨by rfl, ?_⟩) (by assumption) ?_
      rotate_left 1
      · (intro w0 hSw; (try dsimp only at hSw); go_split_ands; go_simp; (try with_reducible rfl))
      try simp only [Act.put, List.setIfInBounds_toArray, List.set_cons_zero, List.set_cons_succ, List.getElem_toArray, List.getElem_cons_zero, List.getElem_cons_succ]
      refine' wpAnyH_take (i := 4) (v := _) rfl (by kernel_rfl) (by kernel_rfl) (by kernel_rfl) (fun _ _ _ h => h) (yieldsIf_load_mid (by rfl) 39 (.tmp 15) rfl gw (ow + k * 5) rfl o.cells _ (fun _ h => h) hu rfl hi) (by assumption) ?_
      try simp only [Act.put, List.setIfInBounds_toArray, List.set_cons_zero, List.set_cons_succ, List.getElem_toArray, List.getElem_cons_zero, List.getElem_cons_succ]
      refine' wpAnyH_take (i := 5) (v := _) rfl (by kernel_rfl) (by kernel_rfl) (by kernel_rfl) (fun _ _ _ h => h) (Or.inl ⟨by rfl, ?_⟩) (by assumption) ?_
      rotate_left 1
      · (intro w0 hSw; (try dsimp only at hSw); go_split_ands; go_simp; (try with_reducible rfl))
      try simp only [Act.put, List.setIfInBounds_toArray, List.set_cons_zero, List.set_cons_succ, List.getElem_toArray, List.getElem_cons_zero, List.getElem_cons_succ]
      refine' wpAnyH_take (i := 8) (v := _) rfl (by kernel_rfl) (by kernel_rfl) (by kernel_rfl) (fun _ _ _ h => h) (Or.inl ⟨by rfl, ?_⟩) (by assumption) ?_
      rotate_left 1
      · (intro w0 hSw; (try dsimp only at hSw); go_split_ands; go_simp; (try with_reducible rfl))
      try simp only [Act.put, List.setIfInBounds_toArray, List.set_cons_zero, List.set_cons_succ, List.getElem_toArray, List.getElem_cons_zero, List.getElem_cons_succ]
      refine' wpAnyH_take (i := 9) (v := _) rfl (by kernel_rfl) (by kernel_rfl) (by kernel_rfl) (fun _ _ _ h => h) (Or.inl ⟨by rfl, ?_⟩) (by assumption) ?_
      rotate_left 1
      · (intro w0 hSw; (try dsimp only at hSw); go_split_ands; go_simp; (try with_reducible rfl))
      try simp only [Act.put, List.setIfInBounds_toArray, List.set_cons_zero, List.set_cons_succ, List.getElem_toArray, List.getElem_cons_zero, List.getElem_cons_succ]
      refine' wpAnyH_take (i := 10) (v := _) rfl (by kernel_rfl) (by kernel_rfl) (by kernel_rfl) (fun _ _ _ h => h) (Or.inl ⟨by rfl, ?_⟩) (by assumption) ?_
      rotate_left 1
      · (intro w0 hSw; (try dsimp only at hSw); go_split_ands; go_simp; (try with_reducible rfl))
      try simp only [Act.put, List.setIfInBounds_toArray, List.set_cons_zero, List.set_cons_succ, List.getElem_toArray, List.getElem_cons_zero, List.getElem_cons_succ]
      refine' wpAnyH_take (i := 11) (v := _) rfl (by kernel_rfl) (by kernel_rfl) (by kernel_rfl) (fun _ _ _ h => h) (yieldsIf_load_mid (by rfl) 39 (.tmp 22) rfl gw (ow + k * 5) rfl o.cells _ (fun _ h => h) hu rfl hi) (by assumption) ?_
      try simp only [Act.put, List.setIfInBounds_toArray, List.set_cons_zero, List.set_cons_succ, List.getElem_toArray, List.getElem_cons_zero, List.getElem_cons_succ]
      have hI0 := hI.keep (w' := wr.drew) (fun _ _ => rfl)
      refine wpAnyH_ready (rs := [6]) (by kernel_rfl) (by simp) ?_
      refine AllReadyH.cons rfl (fun K hK => ?_) AllReadyH.nil
      go_simp
      refine (dPages_any hI0.cells.2.2.2.2.1).mono ?_
      rintro e w1 ⟨rfl, rfl⟩
      refine hK.out _ _ ?_ (fun hHeld => ?_)
      · exact hHeld
      clear hK K
      try simp only [Act.put, List.setIfInBounds_toArray, List.set_cons_zero, List.set_cons_succ, List.getElem_toArray, List.getElem_cons_zero, List.getElem_cons_succ]
      refine wpAnyH_ready (rs := [7]) (by kernel_rfl) (by simp) ?_
      refine AllReadyH.cons rfl (fun K hK => ?_) AllReadyH.nil
      go_simp
      have cOf := lOf_any (w := wr.drew) o hok dr.n (by omega) (by omega)
      rw [o.at_int (by omega)] at cOf
      refine cOf.mono ?_
      rintro e w2 ⟨rfl, hk2⟩
      have hgr : gw < wr.drew.heap.size := Nat.lt_of_lt_of_le hgw hkr.size
      refine hK.out _ _ ?_ (fun hHeld => ?_)
      · exact rangeAt_of_heap hHeld (hk2.block gw hgr (by simp))
      clear hK K
      try simp only [Act.put, List.setIfInBounds_toArray, List.set_cons_zero, List.set_cons_succ, List.getElem_toArray, List.getElem_cons_zero, List.getElem_cons_succ]
      refine wpAnyH_ready (rs := [12]) (by kernel_rfl) (by simp) ?_
      refine AllReadyH.cons rfl (fun K hK => ?_) AllReadyH.nil
      go_simp
      refine (lFilled_any o hok).mono ?_
      rintro e w3 ⟨gf, cf, rfl, hgf, hown, hk3⟩
      have hg2 : gw < w2.heap.size := Nat.lt_of_lt_of_le hgr hk2.size
      refine hK.out _ _ ?_ (fun hHeld => ?_)
      · exact rangeAt_of_heap hHeld (hk3.block gw hg2 (by simp))
      clear hK K
      try simp only [Act.put, List.setIfInBounds_toArray, List.set_cons_zero, List.set_cons_succ, List.getElem_toArray, List.getElem_cons_zero, List.getElem_cons_succ]
      have hI3 := (hI0.keeps hk2 (by simp)).keeps hk3 (by simp)
      obtain ⟨hgl, hrf⟩ : gf < w3.heap.size ∧ w3.rangeAt gf 0 (o.bytes.map B) := by
        rcases ownB_bytes hown with ⟨hv, _⟩ | ⟨g, o', cap, hv, _, _, h3, h4⟩
        · have := o.bytes_length; rw [hv] at this; simp at this
        · injection hv with e _ _
          injection e with e
          injection e with e1 e2
          subst e1; subst e2
          exact ⟨h3, h4⟩
      have hcf : 256 ≤ cf := by
        rcases hown.2 with ⟨hv, _⟩ | ⟨g, cap, cur, hv, _, _, h1, _⟩
        · cases hv
        · injection hv with _ _ e
          rw [o.bytes_length] at h1
          omega
      have cW := dWrite_ok (o.at dr.n) (c := cf) hI3 hdd (o.at_lt (by omega)) o.bytes_length hgl hrf hcf hql
      rw [l1] at cW
      simp only [show ((0 : Int) = 1) = False from by simp, if_false] at cW
      refine wpAnyH_ready (rs := [13]) (by kernel_rfl) (by simp) ?_
      refine AllReadyH.cons rfl (fun K hK => ?_) AllReadyH.nil
      go_simp
      refine cW.mono ?_
      rintro e w4 ⟨rfl, qv', hI4, hk4, hqv⟩
      have hgF : gw ∉ b :: bp :: bm :: qv.ownBlock.toList := fun hm => (HF.out gw hm).elim hgwF (fun h => by omega)
      refine hK.out _ _ ?_ (fun hHeld => ?_)
      · exact rangeAt_of_heap hHeld (hk4.block gw (Nat.lt_of_lt_of_le hg2 hk3.size) hgF)
      clear hK K
      try simp only [Act.put, List.setIfInBounds_toArray, List.set_cons_zero, List.set_cons_succ, List.getElem_toArray, List.getElem_cons_zero, List.getElem_cons_succ]
      refine' wpAnyH_take (i := 14) (v := _) rfl (by kernel_rfl) (by kernel_rfl) (by kernel_rfl) (fun _ _ _ h => h) (Or.inl ⟨by rfl, ?_⟩) (by assumption) ?_
      rotate_left 1
      · (intro w0 hSw; (try dsimp only at hSw); go_split_ands; go_simp; (try with_reducible rfl))
      try simp only [Act.put, List.setIfInBounds_toArray, List.set_cons_zero, List.set_cons_succ, List.getElem_toArray, List.getElem_cons_zero, List.getElem_cons_succ]
      refine wpAnyH_done (by kernel_rfl) ?_ _
      go_wp2_with fail
      go_roundw
      case rel =>
        have hsz : wr.heap.size ≤ w3.heap.size := Nat.le_trans hk2.size hk3.size
        refine ⟨k + 1, by omega, by go_num, ?_, b :: bp :: bm :: qv'.ownBlock.toList, ?_, ?_⟩
        · refine (((hkr.drew).trans (G := []) hk2 (by simp)).trans (G := []) hk3 (by simp)).trans hk4 (fun j hj => HF.out j hj)
        · rw [HNX.out]; exact ⟨bp, qv', bm, hI4, rfl⟩
        · refine HF.out.trans (w' := w3) (F' := b :: bp :: bm :: qv.ownBlock.toList) ?_ (Nat.le_trans hkr.size hsz)
          intro j hj
          simp only [List.mem_cons, Option.mem_toList] at hj ⊢
          rcases hj with h | h | h | h
          · exact .inl (.inl h)
          · exact .inl (.inr (.inl h))
          · exact .inl (.inr (.inr (.inl h)))
          · rcases hqv with e | ⟨g, e, hg⟩
            · exact .inl (.inr (.inr (.inr (by rw [← e]; exact h))))
            · rw [e] at h
              injection h with h
              exact .inr (by omega)
      case measure => simp [intOf]; omega
    · go_wp2_with fail
      go_ret
      have e : ws.take k = ws := List.take_of_length_le (by omega)
      rw [e] at hDr
      exact ⟨rfl, hkr, Fr, hDr, hFr⟩
end Go.Proofs.Ytbjffjplpnnhoaa
