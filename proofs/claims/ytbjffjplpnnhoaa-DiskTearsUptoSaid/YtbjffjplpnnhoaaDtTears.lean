/-
  The walk of ledgerlaw4.DiskTears.
-/
import Derived.Test.YtbjffjplpnnhoaaDtA
namespace Go.Proofs.Ytbjffjplpnnhoaa
open Go.RowKit

set_option maxRecDepth 100000 in
set_option maxHeartbeats 1600000 in
theorem tears_walk {w : World} (n : Int) (n0 : -9223372036854775808 ≤ n) (n1 : n ≤ 9223372036854775807) {v1 v2 v3 : Value} {ws1 ws2 : List Wr} {fates : List UInt8} (h1 : WsAt w w.heap.size v1 ws1) (h2 : WsAt w w.heap.size v2 ws2)
    (h3 : BytesAt w v3 fates) (h3e : ∀ k, v3.elemBlock = some k → k < w.heap.size)
    (ok1 : ∀ o ∈ ws1, o.ok) (ok2 : ∀ o ∈ ws2, o.ok) (l1 : ws1.length ≤ 1048576) (l2 : ws2.length ≤ 1048576) :
    Calls Try.prog 7 #[.int .i64 n, v1, v2, v3] w fun e w' => e = .returned (.bool true) ∧ Below w.heap.size w w' := by
  obtain ⟨a1, c1, rfl, hc1, hm1⟩ := h1.form
  obtain ⟨a2, c2, rfl, hc2, hm2⟩ := h2.form
  obtain ⟨a3, c3, rfl, hc3, hm3⟩ := h3.form
  unfold maxLen at hm1 hm2 hm3
  have H0 := At.start w
  obtain ⟨m, hm⟩ : ∃ m, m = (n % 8).toNat + 3 := ⟨_, rfl⟩
  have cF := fun (w : World) => lFresh_any (w := w) n n0 n1
  rw [← hm] at cF
  have CF := Lib.hid cF
  clear cF hm
  go_enter Try.func7, Try.ntmps7
  go_wp2_with fail
  refine (CF.out w).mono ?_
  rintro e wa ⟨rfl, hka, Fa, hDa, hFa⟩
  have Hc := H0.add (t := diskThing _ _ Fa) hka hDa hFa
  clear hka hDa hFa H0
  obtain ⟨d0, hd0⟩ : ∃ d0, d0 = D.new m := ⟨_, rfl⟩
  rw [← hd0] at Hc
  have cm0 : Calm d0 := by rw [hd0]; exact Calm.new m
  have e0 : d0.q.length = 0 := by rw [hd0]; rfl
  have en0 : d0.n = m := by rw [hd0]; rfl
  clear hd0
  have hw1 := fun (w' : World) (hb : Below w.heap.size w w') => h1.below hb
  have hw2 := fun (w' : World) (hb : Below w.heap.size w w') => h2.below hb
  have hw3 := fun (w' : World) (hb : Below w.heap.size w w') => h3.below hb h3e
  have HW1 := Lib.hid hw1
  have HW2 := Lib.hid hw2
  have HW3 := Lib.hid hw3
  have HE3 := Lib.hid h3e
  have HO1 := Lib.hid ok1
  have HO2 := Lib.hid ok2
  clear hw1 hw2 hw3 h1 h2 h3 h3e ok1 ok2
  have EN0 := Lib.hid en0
  clear en0
  go_wp2_with fail
  refine (pages_len (Hc.disk 0 rfl) EN0.out).mono ?_
  rintro e wb ⟨rfl, rfl⟩
  go_wp2_with fail
  refine (lLays_any (Hc.disk 0 rfl) cm0.dead cm0.armed (HW1.out _ Hc.below) (Hc.ge 0 rfl) HO1.out (by omega)).mono ?_
  rintro e w1 ⟨rfl, hk, F1, hD, hF⟩
  have H1 := Hc.upd 0 rfl hk (t' := diskThing _ _ F1) hD hF
  simp only [List.set_cons_succ, List.set_cons_zero] at H1
  clear hk hD hF Hc
  have cm1 := cm0.lays ws1
  have en1 : (d0.lays ws1).n = m := (D.lays_off cm0.armed ws1).2.2.1.trans EN0.out
  go_wp2_with fail
  refine (sync_thing (H1.disk 0 rfl) cm1).mono ?_
  rintro e w2 ⟨rfl, hk, F2, hD, hF⟩
  have H2 := H1.upd 0 rfl hk (t' := diskThing _ _ F2) hD hF
  simp only [List.set_cons_succ, List.set_cons_zero] at H2
  clear hk hD hF H1
  have cm2 := cm1.sync
  obtain ⟨d2, hd2⟩ : ∃ d2, d2 = (d0.lays ws1).sync := ⟨_, rfl⟩
  rw [← hd2] at H2 cm2
  have e2 : d2.q.length = 0 := by rw [hd2]; rfl
  have en2 : d2.n = m := by rw [hd2]; unfold D.sync; exact (D.act_n _).trans en1
  clear hd2 cm1 e0 cm0 en1 EN0
  go_wp2_with fail
  refine (lLays_any (H2.disk 0 rfl) cm2.dead cm2.armed (HW2.out _ H2.below) (H2.ge 0 rfl) HO2.out (by omega)).mono ?_
  rintro e w3 ⟨rfl, hk, F3, hD, hF⟩
  have H3 := H2.upd 0 rfl hk (t' := diskThing _ _ F3) hD hF
  simp only [List.set_cons_succ, List.set_cons_zero] at H3
  clear hk hD hF H2
  have cm3 := cm2.lays ws2
  obtain ⟨q1, q2, q3, q4, q5, q6, q7⟩ := D.lays_off cm2.armed ws2
  obtain ⟨d3, hd3⟩ : ∃ d3, d3 = d2.lays ws2 := ⟨_, rfl⟩
  rw [← hd3] at H3 cm3 q1 q2 q3 q4 q5 q6 q7
  rw [List.eq_nil_of_length_eq_zero e2, List.nil_append, en2] at q6
  have e3 : d3.q.length = ws2.length := by rw [q6]; simp
  have en3 : d3.n = m := q3.trans en2
  have ok3 := (H3.disk 0 rfl).ok
  have hm3 := ok3.1
  have hm4 := ok3.2.1
  have hI3 := ok3.2.2.1
  rw [en3] at hm3 hm4 hI3
  have E3 := Lib.hid e3
  have Q6 := Lib.hid q6
  have EN3 := Lib.hid en3
  have I3 := Lib.hid hI3
  have OK3 := Lib.hid ok3
  clear hd3 q1 q2 q3 q4 q5 q6 q7 e3 e2 en3 en2 hI3 ok3 cm2
  -- the image
  go_wp2_with fail
  refine (image_len (H3.disk 0 rfl) I3.out).mono ?_
  rintro e w4 ⟨gi, ci, rfl, hgi, hO, hk⟩
  have H4 := H3.add hk (t := bytesThing _ _) hO (fun k hk' => .inr (by simp [bytesThing, Value.ownBlock] at hk'; omega))
  clear hO hk H3
  have b0 : ((256 * (m : Int)) != 256 * (m : Int)) = false := by simp
  have b1 : ((ws2.length : Int) != (ws2.length : Int)) = false := by simp
  go_wp2_with fail
  refine (crash_thing (H4.disk 1 rfl) (HW3.out _ H4.below) (fun j hj hm => by have h5 := H4.ge 1 rfl j hm; have h6 := HE3.out j hj; omega) E3.out).mono ?_
  rintro e w5 ⟨rfl, hk, F5, hD, hF⟩
  have H5 := H4.upd 1 rfl hk (t' := diskThing _ _ F5) hD hF
  simp only [List.set_cons_succ, List.set_cons_zero] at H5
  clear hk hD hF H4
  have hgi5 : w.heap.size ≤ gi := H5.ge 0 rfl gi (by simp [bytesThing, Value.ownBlock])
  have hown0 := H5.bytes 0 rfl
  have HH := Lib.hid H5
  have hws5 := HW2.out _ H5.below
  have hfa5 := HW3.out _ H5.below
  have HWS5 := Lib.hid hws5
  have HFA5 := Lib.hid hfa5
  have hs5 := H5.le
  clear hws5 hfa5 H5
  go_wp2_with fail
  go_loopw [12] (fun i wr => ∃ k : Nat, k ≤ ws2.length ∧ i = .int .i64 k ∧ OwnB wr (.slice (some ⟨gi, 0, none⟩) (256 * m) ci) (torn d3.img d3.q fates k) ∧ Keeps [gi] w5 wr) (fun i _ => ws2.length - (intOf i).toNat)
  case atStart => exact ⟨0, Nat.zero_le _, rfl, by simpa [torn] using hown0, Keeps.refl _ _⟩
  case round =>
    obtain ⟨wo, rfl⟩ : ∃ wo : World, wo = wr := ⟨_, rfl⟩
    obtain ⟨k, hk, rfl, hown, hkr⟩ := hrel
    clear hown0
    by_cases hlt : k < ws2.length
    · obtain ⟨gw, ow, rfl, hgw, hwr, hgn⟩ : ∃ g o, a2 = some ⟨g, o, none⟩ ∧ g < w5.heap.size ∧ w5.rangeAt g o (ws2.flatMap Wr.cells) ∧ g < w.heap.size := by
        rcases HWS5.out with ⟨h0, _⟩ | ⟨g, o, cap, hv, _, _, h2, h3, h4⟩
        · subst h0; simp at hlt
        · injection hv with e _ _
          exact ⟨g, o, e, h3, h4, h2⟩
      obtain ⟨o, ho⟩ : ∃ o, o = ws2[k] := ⟨_, rfl⟩
      have hok : o.ok := HO2.out o (by rw [ho]; exact List.getElem_mem hlt)
      have hwk : w5.rangeAt gw (ow + k * 5) o.cells := by
        obtain ⟨xs, zs, e, hl⟩ := ws_at HO2.out hlt
        rw [← hl, ho]
        rw [e] at hwr
        exact range_sub hwr
      have hqk : d3.q.getD k (0, []) = (o.at m, o.bytes) := by
        rw [Q6.out, List.getD_eq_getElem?_getD, List.getElem?_map, List.getElem?_eq_getElem hlt, ho]
        rfl
      obtain ⟨f, hf⟩ : ∃ f, f = fates.getD k 0 := ⟨_, rfl⟩
      have hts := torn_succ d3.img d3.q fates k
      rw [hqk, ← hf] at hts
      obtain ⟨cur, hcur⟩ : ∃ cur, cur = torn d3.img d3.q fates k := ⟨_, rfl⟩
      have hcl : cur.length = 256 * m := by rw [hcur, torn_length, I3.out]
      rw [← hcur] at hown hts
      have hpl : o.at m < m := o.at_lt (by omega)
      obtain ⟨p, hp⟩ : ∃ p, p = o.at m := ⟨_, rfl⟩
      have hoi := o.at_int (n := m) (by omega)
      simp only [← hp] at hts hpl hoi
      have hkw : (k : Int) < (ws2.length : Int) := by omega
      have hk0 : (0 : Int) ≤ (k : Int) := by omega
      have HTS := Lib.hid hts
      have HF := Lib.hid hf
      have HOI := Lib.hid hoi
      clear hqk hts hf hcur hoi hp ho hwr
      go_wp2_with fail
      go_loopw [13] (fun j wi => ∃ jn : Nat, jn ≤ 256 ∧ j = .int .i64 jn ∧ OwnB wi (.slice (some ⟨gi, 0, none⟩) (256 * m) ci) (tearRow cur p o.bytes f jn) ∧ Keeps [gi] wo wi) (fun j _ => 256 - (intOf j).toNat)
      case atStart => exact ⟨0, by omega, rfl, by simpa [tearRow] using hown, Keeps.refl _ _⟩
      case round =>
        obtain ⟨jn, hj, rfl, howi, hki⟩ := hrel
        clear hown
        have hk5 := hkr.trans hki (by simp)
        by_cases hj4 : jn < 256
        · have hb3 : BytesAt wr (.slice a3 fates.length c3) fates := HFA5.out.keeps hk5 (fun j hj => by have h6 := HE3.out j hj; simp; omega)
          have hwk2 : wr.rangeAt gw (ow + k * 5) o.cells := rangeAt_of_heap hwk (hk5.block gw hgw (by simp; omega))
          have cFt := lFate_any hb3 k (by omega)
          rw [← HF.out] at cFt
          have CFT := Lib.hid cFt
          have hj0 : (0 : Int) ≤ (jn : Int) := by omega
          have hj1 : (jn : Int) < 256 := by omega
          clear hb3 cFt
          cases hbit0 : fateBit f (jn / 64)
          case false =>
            have hbit : (bits BinOp.and IntKind.u8 ((f.toNat : Int) / 2 ^ (jn / 64)) 1 == 1) = false := hbit0
            have HBT := Lib.hid hbit0
            clear hbit0
            go_wp2_with fail
            refine CFT.out.mono ?_
            rintro e w6 ⟨rfl, hk6⟩
            go_wp2_with fail
            go_roundw
            case rel =>
              refine ⟨jn + 1, by omega, by go_num, ?_, hki.trans hk6 (by simp)⟩
              rw [tearRow_succ, tearAt, if_neg (by rw [HBT.out]; simp)]
              exact ownsRow_keep howi (fun j hj => hk6.block j (World.ownsRow.lt howi j hj).2 (by simp))
            case measure => simp [intOf]; omega
          case true =>
            have hbit : (bits BinOp.and IntKind.u8 ((f.toNat : Int) / 2 ^ (jn / 64)) 1 == 1) = true := hbit0
            have HBT := Lib.hid hbit0
            have hol : o.cells.length = 5 := by simp [Wr.cells, hok.1]
            have hu := Try.underlying39
            have hi : (Try.prog.info? 39).map (·.size) = some o.cells.length := by rw [size_wrote, hol]
            clear hbit0
            go_wp2_with fail
            refine CFT.out.mono ?_
            rintro e w6 ⟨rfl, hk6⟩
            have hgw6 : gw < w6.heap.size := by have := hk5.size; have := hk6.size; omega
            have hwk6 : w6.rangeAt gw (ow + k * 5) o.cells := rangeAt_of_heap hwk2 (hk6.block gw (by have := hk5.size; omega) (by simp))
            have how6 : OwnB w6 (.slice (some ⟨gi, 0, none⟩) (256 * m) ci) (tearRow cur p o.bytes f jn) := ownsRow_keep howi (fun j hj => hk6.block j (World.ownsRow.lt howi j hj).2 (by simp))
            obtain ⟨y, hy⟩ : ∃ y, y = o.fill.getD (jn / 64) 0 := ⟨_, rfl⟩
            have hfill : o.cells[1 + jn / 64]? = some (.int .u8 y.toNat) := by
              have hq : jn / 64 < o.fill.length := by rw [hok.1]; omega
              rw [hy, Wr.cells, Nat.add_comm, List.getElem?_cons_succ, List.getElem?_map, List.getElem?_eq_getElem hq, List.getD_eq_getElem?_getD, List.getElem?_eq_getElem hq]
              rfl
            have hyb : o.bytes.getD jn 0 = y := by rw [hy]; unfold Wr.bytes; rw [List.getD_eq_getElem?_getD, List.getElem?_map, List.getElem?_range hj4]; rfl
            have HYB := Lib.hid hyb
            have r0 : IntKind.i64.wrap ((jn : Int) / 64) = (jn : Int) / 64 := IntWalk.i64_in _ (by omega)
            have r1 : (0 : Int) ≤ (jn : Int) / 64 := by omega
            have r2 : (jn : Int) / 64 < 4 := by omega
            have r3 : ((jn : Int) / 64).toNat = jn / 64 := by omega
            have r4 : IntKind.i64.wrap (256 * (p : Int)) = 256 * (p : Int) := IntWalk.i64_in _ (by omega)
            have r5 : IntKind.i64.wrap (256 * (p : Int) + (jn : Int)) = 256 * (p : Int) + (jn : Int) := IntWalk.i64_in _ (by omega)
            have r6 : (0 : Int) ≤ 256 * (p : Int) + (jn : Int) := by omega
            have r7 : 256 * (p : Int) + (jn : Int) < 256 * (m : Int) := by omega
            have r8 : (256 * (p : Int) + (jn : Int)).toNat = 256 * p + jn := by omega
            clear hy hyb hwk hwk2 CFT
            go_wp2_with fail
            refine rl_start (fun w' => w'.rangeAt gw (ow + k * 5) o.cells ∧ w'.cell? ⟨gw, ow + k * 5 + 1 + jn / 64, none⟩ = some (.int .u8 y.toNat) ∧ OwnB w' (.slice (some ⟨gi, 0, none⟩) (256 * m) ci) (tearRow cur p o.bytes f jn) ∧ Keeps [] w6 w') 19 (by kernel_rfl) ?_ (fun hHeld => ?_)
            · exact ⟨hwk6, by rw [Nat.add_assoc]; exact hwk6 _ _ hfill, how6, (Keeps.refl _ _).drew⟩
            refine' rl_take (i := 0) (v := _) rfl (by kernel_rfl) (by kernel_rfl) (by kernel_rfl) (by kernel_rfl) (fun _ _ _ h => h) (Or.inl ⟨by rfl, ?_⟩) (by assumption) ?_
            rotate_left 1
            · (intro w0 hSw; (try dsimp only at hSw); go_split_ands; go_simp; (try with_reducible rfl))
            try simp only [Act.put, List.setIfInBounds_toArray, List.set_cons_zero, List.set_cons_succ, List.getElem_toArray, List.getElem_cons_zero, List.getElem_cons_succ]
            refine' rl_take (i := 1) (v := _) rfl (by kernel_rfl) (by kernel_rfl) (by kernel_rfl) (by kernel_rfl) (fun _ _ _ h => h) (Or.inl ⟨by rfl, ?_⟩) (by assumption) ?_
            rotate_left 1
            · (intro w0 hSw; (try dsimp only at hSw); go_split_ands; go_simp; (try with_reducible rfl))
            try simp only [Act.put, List.setIfInBounds_toArray, List.set_cons_zero, List.set_cons_succ, List.getElem_toArray, List.getElem_cons_zero, List.getElem_cons_succ]
            refine' rl_take (i := 2) (v := _) rfl (by kernel_rfl) (by kernel_rfl) (by kernel_rfl) (by kernel_rfl) (fun _ _ _ h => h) (Or.inl ⟨by rfl, ?_⟩) (by assumption) ?_
            rotate_left 1
            · (intro w0 hSw; (try dsimp only at hSw); go_split_ands; go_simp; (try with_reducible rfl))
            try simp only [Act.put, List.setIfInBounds_toArray, List.set_cons_zero, List.set_cons_succ, List.getElem_toArray, List.getElem_cons_zero, List.getElem_cons_succ]
            refine' rl_take (i := 3) (v := _) rfl (by kernel_rfl) (by kernel_rfl) (by kernel_rfl) (by kernel_rfl) (fun _ _ _ h => h) (Or.inl ⟨by rfl, ?_⟩) (by assumption) ?_
            rotate_left 1
            · (intro w0 hSw; (try dsimp only at hSw); go_split_ands; go_simp; (try with_reducible rfl))
            try simp only [Act.put, List.setIfInBounds_toArray, List.set_cons_zero, List.set_cons_succ, List.getElem_toArray, List.getElem_cons_zero, List.getElem_cons_succ]
            refine' rl_take (i := 4) (v := _) rfl (by kernel_rfl) (by kernel_rfl) (by kernel_rfl) (by kernel_rfl) (fun _ _ _ h => h) (yieldsIf_load_mid (by rfl) 39 (.tmp 75) rfl gw (ow + k * 5) rfl o.cells _ (fun _ h => h.1) hu rfl hi) (by assumption) ?_
            try simp only [Act.put, List.setIfInBounds_toArray, List.set_cons_zero, List.set_cons_succ, List.getElem_toArray, List.getElem_cons_zero, List.getElem_cons_succ]
            refine' rl_take (i := 5) (v := _) rfl (by kernel_rfl) (by kernel_rfl) (by kernel_rfl) (by kernel_rfl) (fun _ _ _ h => h) (Or.inl ⟨by rfl, ?_⟩) (by assumption) ?_
            rotate_left 1
            · (intro w0 hSw; (try dsimp only at hSw); go_split_ands; go_simp; (try with_reducible rfl))
            try simp only [Act.put, List.setIfInBounds_toArray, List.set_cons_zero, List.set_cons_succ, List.getElem_toArray, List.getElem_cons_zero, List.getElem_cons_succ]
            refine' rl_take (i := 8) (v := _) rfl (by kernel_rfl) (by kernel_rfl) (by kernel_rfl) (by kernel_rfl) (fun _ _ _ h => h) (Or.inl ⟨by rfl, ?_⟩) (by assumption) ?_
            rotate_left 1
            · (intro w0 hSw; (try dsimp only at hSw); go_split_ands; go_simp; (try with_reducible rfl))
            try simp only [Act.put, List.setIfInBounds_toArray, List.set_cons_zero, List.set_cons_succ, List.getElem_toArray, List.getElem_cons_zero, List.getElem_cons_succ]
            refine' rl_take (i := 10) (v := _) rfl (by kernel_rfl) (by kernel_rfl) (by kernel_rfl) (by kernel_rfl) (fun _ _ _ h => h) (Or.inl ⟨by rfl, ?_⟩) (by assumption) ?_
            rotate_left 1
            · (intro w0 hSw; (try dsimp only at hSw); go_split_ands; go_simp; (try with_reducible rfl))
            try simp only [Act.put, List.setIfInBounds_toArray, List.set_cons_zero, List.set_cons_succ, List.getElem_toArray, List.getElem_cons_zero, List.getElem_cons_succ]
            refine' rl_take (i := 11) (v := _) rfl (by kernel_rfl) (by kernel_rfl) (by kernel_rfl) (by kernel_rfl) (fun _ _ _ h => h) (Or.inl ⟨by rfl, ?_⟩) (by assumption) ?_
            rotate_left 1
            · (intro w0 hSw; (try dsimp only at hSw); go_split_ands; go_simp; (try with_reducible rfl))
            try simp only [Act.put, List.setIfInBounds_toArray, List.set_cons_zero, List.set_cons_succ, List.getElem_toArray, List.getElem_cons_zero, List.getElem_cons_succ]
            refine' rl_take (i := 12) (v := _) rfl (by kernel_rfl) (by kernel_rfl) (by kernel_rfl) (by kernel_rfl) (fun _ _ _ h => h) (Or.inl ⟨by rfl, ?_⟩) (by assumption) ?_
            rotate_left 1
            · (intro w0 hSw; (try dsimp only at hSw); go_split_ands; go_simp; (try with_reducible rfl))
            try simp only [Act.put, List.setIfInBounds_toArray, List.set_cons_zero, List.set_cons_succ, List.getElem_toArray, List.getElem_cons_zero, List.getElem_cons_succ]
            refine' rl_take (i := 13) (v := _) rfl (by kernel_rfl) (by kernel_rfl) (by kernel_rfl) (by kernel_rfl) (fun _ _ _ h => h) (Or.inl ⟨by rfl, ?_⟩) (by assumption) ?_
            rotate_left 1
            · (intro w0 hSw; (try dsimp only at hSw); go_split_ands; go_simp; (try with_reducible rfl))
            try simp only [Act.put, List.setIfInBounds_toArray, List.set_cons_zero, List.set_cons_succ, List.getElem_toArray, List.getElem_cons_zero, List.getElem_cons_succ]
            refine' rl_take (i := 14) (v := _) rfl (by kernel_rfl) (by kernel_rfl) (by kernel_rfl) (by kernel_rfl) (fun _ _ _ h => h) (Or.inl ⟨by rfl, ?_⟩) (by assumption) ?_
            rotate_left 1
            · (intro w0 hSw; (try dsimp only at hSw); go_split_ands; go_simp; (try with_reducible rfl))
            try simp only [Act.put, List.setIfInBounds_toArray, List.set_cons_zero, List.set_cons_succ, List.getElem_toArray, List.getElem_cons_zero, List.getElem_cons_succ]
            refine' rl_take (i := 15) (v := _) rfl (by kernel_rfl) (by kernel_rfl) (by kernel_rfl) (by kernel_rfl) (fun _ _ _ h => h) (Or.inl ⟨by rfl, ?_⟩) (by assumption) ?_
            rotate_left 1
            · (intro w0 hSw; (try dsimp only at hSw); go_split_ands; go_simp; (try with_reducible rfl))
            try simp only [Act.put, List.setIfInBounds_toArray, List.set_cons_zero, List.set_cons_succ, List.getElem_toArray, List.getElem_cons_zero, List.getElem_cons_succ]
            refine' rl_take (i := 16) (v := _) rfl (by kernel_rfl) (by kernel_rfl) (by kernel_rfl) (by kernel_rfl) (fun _ _ _ h => h) (Or.inl ⟨by rfl, ?_⟩) (by assumption) ?_
            rotate_left 1
            · (intro w0 hSw; (try dsimp only at hSw); go_split_ands; go_simp; (try with_reducible rfl))
            try simp only [Act.put, List.setIfInBounds_toArray, List.set_cons_zero, List.set_cons_succ, List.getElem_toArray, List.getElem_cons_zero, List.getElem_cons_succ]
            refine' rl_take (i := 17) (v := _) rfl (by kernel_rfl) (by kernel_rfl) (by kernel_rfl) (by kernel_rfl) (fun _ _ _ h => h) (Or.inl ⟨by rfl, ?_⟩) (by assumption) ?_
            rotate_left 1
            · (intro w0 hSw; (try dsimp only at hSw); go_split_ands; go_simp; (try with_reducible rfl))
            try simp only [Act.put, List.setIfInBounds_toArray, List.set_cons_zero, List.set_cons_succ, List.getElem_toArray, List.getElem_cons_zero, List.getElem_cons_succ]
            have cOf := lOf_any (w := w6.drew) o hok m (by omega) (by omega)
            rw [HOI.out] at cOf
            refine rl_act (i := 6) (by kernel_rfl) rfl (fun K hK => ?_)
            go_simp
            refine cOf.mono ?_
            rintro e w7 ⟨rfl, hk7⟩
            obtain ⟨z1, z2, z3, z4⟩ := hHeld
            refine hK.out _ _ ?_ (fun hHeld => ?_)
            · have hz := rangeAt_of_heap z1 (hk7.block gw hgw6 (by simp))
              exact ⟨hz, by rw [Nat.add_assoc]; exact hz _ _ hfill, ownsRow_keep z3 (fun j hj => hk7.block j (World.ownsRow.lt z3 j hj).2 (by simp)), z4.trans hk7 (by simp)⟩
            clear hK K
            try simp only [Act.put, List.setIfInBounds_toArray, List.set_cons_zero, List.set_cons_succ, List.getElem_toArray, List.getElem_cons_zero, List.getElem_cons_succ]
            refine' rl_take (i := 7) (v := _) rfl (by kernel_rfl) (by kernel_rfl) (by kernel_rfl) (by kernel_rfl) (fun _ _ _ h => h) (Or.inl ⟨by rfl, ?_⟩) (by assumption) ?_
            rotate_left 1
            · (intro w0 hSw; (try dsimp only at hSw); go_split_ands; go_simp; (try with_reducible rfl))
            try simp only [Act.put, List.setIfInBounds_toArray, List.set_cons_zero, List.set_cons_succ, List.getElem_toArray, List.getElem_cons_zero, List.getElem_cons_succ]
            refine' rl_take (i := 9) (v := _) rfl (by kernel_rfl) (by kernel_rfl) (by kernel_rfl) (by kernel_rfl) (fun _ _ _ h => h) (Or.inl ⟨by rfl, ?_⟩) (by assumption) ?_
            rotate_left 1
            · (intro w0 hSw; (try dsimp only at hSw); go_split_ands; go_simp; (try with_reducible rfl))
            try simp only [Act.put, List.setIfInBounds_toArray, List.set_cons_zero, List.set_cons_succ, List.getElem_toArray, List.getElem_cons_zero, List.getElem_cons_succ]
            refine' rl_take (i := 18) (v := _) rfl (by kernel_rfl) (by kernel_rfl) (by kernel_rfl) (by kernel_rfl) (fun _ _ _ h => h) (Or.inl ⟨by rfl, ?_⟩) (by assumption) ?_
            rotate_left 1
            · (intro w0 hSw; (try dsimp only at hSw); go_split_ands; go_simp; (try with_reducible rfl))
            try simp only [Act.put, List.setIfInBounds_toArray, List.set_cons_zero, List.set_cons_succ, List.getElem_toArray, List.getElem_cons_zero, List.getElem_cons_succ]
            obtain ⟨y1, y2, y3, y4⟩ := hHeld
            have hil : 256 * p + jn < (tearRow cur p o.bytes f jn).length := by rw [tearRow_length, hcl]; omega
            have g1 := y3.cell _ hil
            have g2 := y3.free (256 * p + jn)
            have g3 := y3.set _ hil y
            have G3 := Lib.hid g3
            obtain ⟨old, hold⟩ : ∃ old, old = B (tearRow cur p o.bytes f jn)[256 * p + jn] := ⟨_, rfl⟩
            rw [← hold] at g1
            clear hold g3
            refine rl_last (by kernel_rfl) (by kernel_rfl) rfl (fun K hK => ?_)
            go_simp
            refine hK.out _ _ ?_
            clear hK K
            try simp only [Act.put, List.setIfInBounds_toArray, List.set_cons_zero, List.set_cons_succ, List.getElem_toArray, List.getElem_cons_zero, List.getElem_cons_succ]
            go_wp2_with fail
            go_roundw
            case rel =>
              refine ⟨jn + 1, by omega, by go_num, ?_, ((hki.trans hk6 (by simp)).trans y4 (by simp)).setCell (.inl (by simp)) _⟩
              rw [tearRow_succ, tearAt, if_pos HBT.out, HYB.out, Nat.mul_comm p 256]
              exact G3.out
            case measure => simp [intOf]; omega
        · have ej : jn = 256 := by omega
          subst ej
          rw [← HTS.out] at howi
          clear hwk
          go_wp2_with fail
          go_roundw
          case rel => exact ⟨k + 1, by omega, by go_num, howi, hk5⟩
          case measure => simp [intOf]; omega
    · have ek : k = ws2.length := by omega
      have hfin : torn d3.img d3.q fates k = (d3.crash fates).img := by
        rw [ek, ← E3.out]
        exact torn_crashed d3.img d3.q fates (n := d3.n) OK3.out.2.2.1 OK3.out.2.2.2.1
      rw [hfin] at hown
      have H6 := HH.out.upd 0 rfl (t' := bytesThing (.slice (some ⟨gi, 0, none⟩) (256 * m) ci) (d3.crash fates).img) hkr hown (From.refl _ _)
      simp only [List.set_cons_zero] at H6
      clear hfin hown hkr
      have cm4 : Calm (d3.crash fates) := ⟨rfl, rfl⟩
      obtain ⟨d4, hd4⟩ : ∃ d4, d4 = d3.crash fates := ⟨_, rfl⟩
      rw [← hd4] at H6 cm4
      have hq4 : d4.q = [] := by rw [hd4]; rfl
      have en4 : d4.n = m := by rw [hd4]; exact EN3.out
      clear hd4
      have HQ4 := Lib.hid hq4
      have EN4 := Lib.hid en4
      clear hq4 en4
      go_wp2_with fail
      refine (image_thing (H6.disk 1 rfl)).mono ?_
      rintro e w7 ⟨ga, ca, rfl, hga, hO, hk⟩
      have H7 := H6.add hk (t := bytesThing _ _) hO (fun k hk' => .inr (by simp [bytesThing, Value.ownBlock] at hk'; omega))
      clear hO hk H6
      go_wp2_with fail
      refine (same_true (ownB_bytes (H7.bytes 0 rfl)) (ownB_bytes (H7.bytes 1 rfl)) rfl).mono ?_
      rintro e w8 ⟨rfl, hk⟩
      have H8 := H7.keep hk
      clear hk H7
      go_wp2_with fail
      have hc5 := (H8.bytes 1 rfl).row
      have himg : d4.img.length = 256 * m := by
        obtain ⟨_, _, e, _⟩ := hc5
        exact e.symm
      have hci : 256 * m ≤ ci ∧ ci ≤ maxLen := by
        obtain ⟨_, _, _, e1, e2, _⟩ := hc5
        exact ⟨e1, e2⟩
      obtain ⟨hci1, hci2⟩ := hci
      unfold maxLen at hci2
      clear hc5
      have IMG := Lib.hid himg
      clear himg
      obtain ⟨L8, hL8⟩ : ∃ L8 : D → List Thing, L8 = fun dr => [bytesThing (.slice (some ⟨ga, 0, none⟩) d4.img.length ca) d4.img, bytesThing (.slice (some ⟨gi, 0, none⟩) (256 * m) ci) d4.img, diskThing (w.heap.size + 2) dr F5] := ⟨_, rfl⟩
      have H8' : At w w8 (L8 d4) := by rw [hL8]; exact H8
      have HL8 := Lib.hid hL8
      clear hL8 H8
      go_loopw [14] (fun i wr => ∃ k : Nat, k ≤ m ∧ i = .int .i64 k ∧ ∃ dr, dr.dead = false ∧ dr.n = m ∧ dr.q = [] ∧ dr.img = d4.img ∧ At w wr (L8 dr)) (fun i _ => m - (intOf i).toNat)
      case atStart => exact ⟨0, Nat.zero_le _, rfl, d4, cm4.dead, EN4.out, HQ4.out, rfl, H8'⟩
      case round =>
        obtain ⟨k, hk, rfl, dr, hr1, hr2, hr3, hr4, hA⟩ := hrel
        rw [HL8.out] at hA
        by_cases hlt : k < m
        · have cR := read_thing (hA.disk 2 rfl) hr1 k (by omega)
          have hrd : dr.read k = (d4.img.drop (k * 256)).take 256 := by rw [read_calm hr3, hr4]
          have t0 : (0 : Int) ≤ 256 * (k : Int) := by omega
          have t1 : 256 * (k : Int) ≤ 256 * (k : Int) + 256 := by omega
          have t2 : 256 * (k : Int) + 256 ≤ (ci : Int) := by omega
          have CR := Lib.hid cR
          have HRD := Lib.hid hrd
          have HR1 := Lib.hid hr1
          have HR2 := Lib.hid hr2
          have HR3 := Lib.hid hr3
          have HR4 := Lib.hid hr4
          clear cR hrd hr1 hr2 hr3 hr4 H8'
          go_wp2_with fail
          refine CR.out.mono ?_
          rintro e w9 ⟨gb, cb, rfl, hgb, hO, hD9, hk9⟩
          have H9 := hA.upd 2 rfl hk9 (t' := diskThing _ { dr with reads := wrap64 (dr.reads + 1) } F5) hD9 (From.refl _ _)
          simp only [List.set_cons_succ, List.set_cons_zero] at H9
          rw [HRD.out] at hO
          go_wp2_with fail
          refine (same_true (ownB_bytes hO) ?_ rfl).mono ?_
          · rw [Nat.mul_comm 256 k]
            exact (H9.bytes 1 rfl).part k (by rw [IMG.out]; omega) _ (by omega) (by unfold maxLen; omega)
          rintro e w10 ⟨rfl, hk10⟩
          have H10 := H9.keep hk10
          go_wp2_with fail
          go_roundw
          case rel => exact ⟨k + 1, by omega, by go_num, { dr with reads := wrap64 (dr.reads + 1) }, HR1.out, HR2.out, HR3.out, HR4.out, by rw [HL8.out]; exact H10⟩
          case measure => simp [intOf]; omega
        · clear hr1 hr2 hr3 hr4 H8'
          go_wp2_with fail
          go_ret
          exact ⟨rfl, hA.below⟩
end Go.Proofs.Ytbjffjplpnnhoaa
