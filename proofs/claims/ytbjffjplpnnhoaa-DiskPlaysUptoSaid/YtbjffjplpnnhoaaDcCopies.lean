/-
  The walk of ledgerlaw4.DiskCopies.
-/
import Derived.Test.YtbjffjplpnnhoaaDtA
namespace Go.Proofs.Ytbjffjplpnnhoaa
set_option linter.unusedVariables false
set_option linter.unusedSimpArgs false
open Go.RowKit

theorem xor_byte (n : Nat) (h : n < 256) : ∃ y : UInt8, bits BinOp.xor IntKind.u8 (n : Int) 255 = (y.toNat : Int) := by
  have key : ∀ x : Fin 256, bits BinOp.xor IntKind.u8 ((x.val : Nat) : Int) 255 = ((x.val.toUInt8 ^^^ 255).toNat : Int) := by decide +kernel
  exact ⟨_, key ⟨n, h⟩⟩
theorem load_thing {w : World} {v : Value} {img : List UInt8} {n : Nat} (hv : BytesAt w v img) (hl : img.length = 256 * n) (h3 : 3 ≤ n) (h4 : n ≤ 4096) {d : D} (hd : d = { D.new n with img }) :
    Calls Try.prog 30 #[v] w fun e w' => e = .returned (.tuple #[.pointer (some ⟨w.heap.size + 2, 0, none⟩), .int .i64 0]) ∧ Keeps [] w w' ∧ ∃ F, DiskAt w' (w.heap.size + 2) d F ∧ From w [] F := by
  subst hd
  exact dLoad_ok n hv hl h3 h4
theorem epoch_thing {w : World} {b : Nat} {d : D} {F : List Nat} (h : DiskAt w b d F) {n : Int} (hn : d.epoch = n) :
    Calls Try.prog 21 #[.pointer (some ⟨b, 0, none⟩)] w fun e w' => e = .returned (.int .i64 n) ∧ w = w' := by
  subst hn
  obtain ⟨bp, qv, bm, hI, rfl⟩ := h
  obtain ⟨c0, c1, c2, c3, c4, c5, c6, c7, c8, c9⟩ := hI.cells
  exact dEpoch_any c9
theorem counts_thing {w : World} {b : Nat} {d : D} {F : List Nat} (h : DiskAt w b d F) {n : Nat} (hn : d.q.length = n) :
    Calls Try.prog 29 #[.pointer (some ⟨b, 0, none⟩)] w fun e w' => ∃ x y z, e = .returned (.agg #[.int .i64 x, .int .i64 y, .int .i64 z, .int .i64 n]) ∧ Keeps [] w w' := by
  subst hn
  obtain ⟨bp, qv, bm, hI, rfl⟩ := h
  obtain ⟨c0, c1, c2, c3, c4, c5, c6, c7, c8, c9⟩ := hI.cells
  refine (dCounts_any c0 c1 c2 c3).mono ?_
  rintro e w' ⟨rfl, hk⟩
  exact ⟨_, _, _, rfl, hk⟩
theorem field_open (w : World) (x y z n : Int) : (Instr.field 56 (.agg #[.int .i64 x, .int .i64 y, .int .i64 z, .int .i64 n]) 3).run Try.prog w = .ok (.int .i64 n) w := by kernel_rfl

set_option maxRecDepth 100000 in
set_option maxHeartbeats 1600000 in
theorem copies_walk {w : World} (n : Int) (n0 : -9223372036854775808 ≤ n) (n1 : n ≤ 9223372036854775807) {v1 v2 v3 : Value} {ws1 ws2 ws3 : List Wr} (h1 : WsAt w w.heap.size v1 ws1) (h2 : WsAt w w.heap.size v2 ws2) (h3 : WsAt w w.heap.size v3 ws3)
    (ok1 : ∀ o ∈ ws1, o.ok) (ok2 : ∀ o ∈ ws2, o.ok) (ok3 : ∀ o ∈ ws3, o.ok) (l1 : ws1.length ≤ 1048576) (l2 : ws2.length ≤ 1048576) (l3 : ws3.length ≤ 1048576) :
    Calls Try.prog 9 #[.int .i64 n, v1, v2, v3] w fun e w' => e = .returned (.bool true) ∧ Below w.heap.size w w' := by
  obtain ⟨a1, c1, rfl, hc1, hm1⟩ := h1.form
  obtain ⟨a2, c2, rfl, hc2, hm2⟩ := h2.form
  obtain ⟨a3, c3, rfl, hc3, hm3⟩ := h3.form
  unfold maxLen at hm1 hm2 hm3
  have Hc := At.start w
  obtain ⟨m, hm⟩ : ∃ m, m = (n % 8).toNat + 3 := ⟨_, rfl⟩
  have cF := fun (w : World) => lFresh_any (w := w) n n0 n1
  rw [← hm] at cF
  have CF := Lib.hid cF
  clear cF hm
  have hw1 := fun (w' : World) (hb : Below w.heap.size w w') => h1.below hb
  have hw2 := fun (w' : World) (hb : Below w.heap.size w w') => h2.below hb
  have hw3 := fun (w' : World) (hb : Below w.heap.size w w') => h3.below hb
  have HW1 := Lib.hid hw1
  have HW2 := Lib.hid hw2
  have HW3 := Lib.hid hw3
  have HO1 := Lib.hid ok1
  have HO2 := Lib.hid ok2
  have HO3 := Lib.hid ok3
  clear hw1 hw2 hw3 h1 h2 h3 ok1 ok2 ok3
  obtain ⟨d0, hd0⟩ : ∃ d0, d0 = D.new m := ⟨_, rfl⟩
  have cm0 : Calm d0 := by rw [hd0]; exact Calm.new m
  have e0 : d0.q.length = 0 := by rw [hd0]; rfl
  have en0 : d0.n = m := by rw [hd0]; rfl
  have hq0 : d0.q = [] := by rw [hd0]; rfl
  rw [← hd0] at CF
  have EN0 := Lib.hid en0
  have HQ0 := Lib.hid hq0
  have HD0 := Lib.hid hd0
  clear hd0 en0 hq0
  go_enter Try.func9, Try.ntmps9
  go_wp2_with fail
  refine (CF.out _).mono ?_
  rintro e w1 ⟨rfl, hk, F1, hD, hF⟩
  have K1 := Hc.add (t := diskThing _ _ F1) hk hD hF
  clear hk hD hF Hc
  go_wp2_with fail
  refine (lLays_any (K1.disk 0 rfl) cm0.dead cm0.armed (HW1.out _ K1.below) (K1.ge 0 rfl) HO1.out (by omega)).mono ?_
  rintro e w2 ⟨rfl, hk, F2, hD, hF⟩
  have K2 := K1.upd 0 rfl hk (t' := diskThing _ _ F2) hD hF
  simp only [List.set_cons_succ, List.set_cons_zero] at K2
  clear hk hD hF K1
  have cm1 := cm0.lays ws1
  obtain ⟨s1, s2, s3, s4, s5, s6, s7⟩ := D.lays_off cm0.armed ws1
  go_wp2_with fail
  refine (sync_thing (K2.disk 0 rfl) cm1).mono ?_
  rintro e w3 ⟨rfl, hk, F3, hD, hF⟩
  have K3 := K2.upd 0 rfl hk (t' := diskThing _ _ F3) hD hF
  simp only [List.set_cons_succ, List.set_cons_zero] at K3
  clear hk hD hF K2
  have cm2 := cm1.sync
  obtain ⟨d2, hd2⟩ : ∃ d2, d2 = (d0.lays ws1).sync := ⟨_, rfl⟩
  rw [← hd2] at cm2 K3
  have hq2 : d2.q = [] := by rw [hd2]; rfl
  have en2 : d2.n = m := by rw [hd2]; exact (D.act_n _).trans (s3.trans EN0.out)
  have ei2 : d2.img = synced d0.img (ws1.map fun o => (o.at m, o.bytes)) := by
    rw [hd2]
    show synced (d0.lays ws1).img (d0.lays ws1).q = _
    rw [s4, s6, HQ0.out, List.nil_append, EN0.out]
  have hok2 := (K3.disk 0 rfl).ok
  have hm3' := hok2.1
  have hm4' := hok2.2.1
  have hI2 := hok2.2.2.1
  rw [en2] at hm3' hm4' hI2
  have HQ2 := Lib.hid hq2
  have EN2 := Lib.hid en2
  have EI2 := Lib.hid ei2
  have I2 := Lib.hid hI2
  have HD2 := Lib.hid hd2
  clear hq2 en2 ei2 hI2 hok2 hd2 s1 s2 s3 s4 s5 s6 s7 cm1
  go_wp2_with fail
  refine (image_len (K3.disk 0 rfl) I2.out).mono ?_
  rintro e w4 ⟨g4, c4, rfl, hg4, hO, hk⟩
  have K4 := K3.add hk (t := bytesThing _ _) hO (fun k hk' => .inr (by simp [bytesThing, Value.ownBlock] at hk'; omega))
  clear hO hk K3
  obtain ⟨cc, hcc⟩ : ∃ cc : D, cc = { D.new m with img := d2.img } := ⟨_, rfl⟩
  go_wp2_with fail
  refine (load_thing (ownB_bytes (K4.bytes 0 rfl)) I2.out hm3' hm4' hcc).mono ?_
  rintro e w5 ⟨rfl, hk, F5, hD, hF⟩
  have K5 := K4.add (t := diskThing _ _ F5) hk hD hF
  clear hk hD hF K4
  have cmc : Calm cc := by rw [hcc]; exact ⟨rfl, rfl⟩
  have hqc : cc.q = [] := by rw [hcc]; rfl
  have enc : cc.n = m := by rw [hcc]; rfl
  have eic : cc.img = d2.img := by rw [hcc]
  have eec : cc.epoch = 0 := by rw [hcc]; rfl
  have HQC := Lib.hid hqc
  have ENC := Lib.hid enc
  have EIC := Lib.hid eic
  have EEC := Lib.hid eec
  clear hcc hqc enc eic eec
  have b0 : ((m : Int) != (m : Int)) = false := by simp
  go_wp2_with fail
  refine (pages_len (K5.disk 0 rfl) ENC.out).mono ?_
  rintro e w' ⟨rfl, rfl⟩
  go_wp2_with fail
  refine (pages_len (K5.disk 2 rfl) EN2.out).mono ?_
  rintro e w' ⟨rfl, rfl⟩
  go_wp2_with fail
  obtain ⟨L5, hL5⟩ : ∃ L5 : List UInt8 → List Thing, L5 = fun l => [diskThing (w4.heap.size + 2) cc F5, bytesThing (.slice (some ⟨g4, 0, none⟩) (256 * m) c4) l, diskThing (w.heap.size + 2) d2 F3] := ⟨_, rfl⟩
  have hA5 : At w w5 (L5 d2.img) := by rw [hL5]; exact K5
  have HL5 := Lib.hid hL5
  clear hL5 K5
  go_loopw [13] (fun i wr => ∃ k : Nat, k ≤ 256 * m ∧ i = .int .i64 k ∧ ∃ l : List UInt8, l.length = 256 * m ∧ At w wr (L5 l)) (fun i _ => 256 * m - (intOf i).toNat)
  case atStart => exact ⟨0, Nat.zero_le _, rfl, d2.img, I2.out, hA5⟩
  case round =>
   obtain ⟨k, hk, rfl, l, hl, hA⟩ := hrel
   rw [HL5.out] at hA
   clear hA5
   by_cases hlt : k < 256 * m
   · have hO := hA.bytes 1 rfl
     obtain ⟨x, hx⟩ : ∃ x, x = l[k] := ⟨_, rfl⟩
     have g1 : wr.cell? ⟨g4, k, none⟩ = some (.int .u8 x.toNat) := by rw [hx]; exact hO.cell k (by omega)
     have g2 := hO.free k
     obtain ⟨y, hy⟩ := xor_byte x.toNat x.toNat_lt
     have g3 := hO.set k (by omega) y
     have t0 : (0 : Int) ≤ (k : Int) := by omega
     have t1 : (k : Int) < 256 * (m : Int) := by omega
     have G3 := Lib.hid g3
     have HY := Lib.hid hy
     clear g3 hy hx hO
     go_wp2_with fail
     go_roundw
     case rel =>
       refine ⟨k + 1, by omega, by go_num, l.set k y, by rw [List.length_set, hl], ?_⟩
       rw [HL5.out]
       have hu := hA.upd 1 rfl (t' := bytesThing (.slice (some ⟨g4, 0, none⟩) (256 * m) c4) (l.set k y)) (w' := wr.setCell ⟨g4, k, none⟩ (B y)) ((Keeps.refl _ _).setCell (.inl (by simp [bytesThing, Value.ownBlock])) _) G3.out (From.refl _ _)
       simp only [List.set_cons_succ, List.set_cons_zero] at hu
       unfold B at hu
       rw [← HY.out] at hu
       exact hu
     case measure => simp [intOf]; omega
   · clear hl
     go_wp2_with fail
     obtain ⟨L6, hL6⟩ : ∃ L6 : Int → Int → List Thing, L6 = fun r1 r2 => [diskThing (w4.heap.size + 2) { cc with reads := r1 } F5, bytesThing (.slice (some ⟨g4, 0, none⟩) (256 * m) c4) l, diskThing (w.heap.size + 2) { d2 with reads := r2 } F3] := ⟨_, rfl⟩
     have hA6 : At w wr (L6 cc.reads d2.reads) := by rw [hL6]; exact hA
     have HL6 := Lib.hid hL6
     clear hL6 hA
     obtain ⟨wo, rfl⟩ : ∃ wo : World, wo = wr := ⟨_, rfl⟩
     go_loopw [14] (fun i wr => ∃ k : Nat, k ≤ m ∧ i = .int .i64 k ∧ ∃ r1 r2, At w wr (L6 r1 r2)) (fun i _ => m - (intOf i).toNat)
     case atStart => exact ⟨0, Nat.zero_le _, rfl, cc.reads, d2.reads, hA6⟩
     case round =>
      clear hA6
      obtain ⟨k, hk, rfl, r1, r2, hA⟩ := hrel
      rw [HL6.out] at hA
      by_cases hlt : k < m
      · have t0 : (0 : Int) ≤ (k : Int) := by omega
        have t1 : (k : Int) < (m : Int) := by omega
        have cR1 := fun (hh : k < d2.n) => read_thing (hA.disk 2 rfl) cm2.dead k hh
        have CR1 := Lib.hid (cR1 (by rw [EN2.out]; exact hlt))
        clear cR1
        have ePQ : ({ d2 with reads := r2 } : D).read k = ({ cc with reads := r1 } : D).read k := by
          rw [read_calm (d := { d2 with reads := r2 }) HQ2.out, read_calm (d := { cc with reads := r1 }) HQC.out]
          simp only [EIC.out]
        have EPQ := Lib.hid ePQ
        clear ePQ
        go_wp2_with fail
        refine (pages_len (hA.disk 2 rfl) EN2.out).mono ?_
        rintro e w' ⟨rfl, rfl⟩
        go_wp2_with fail
        refine CR1.out.mono ?_
        rintro e wx ⟨ga, ca, rfl, hga, hO, hD, hk1⟩
        have hB := hA.upd 2 rfl hk1 (t' := diskThing _ { d2 with reads := wrap64 (r2 + 1) } F3) hD (From.refl _ _)
        simp only [List.set_cons_succ, List.set_cons_zero] at hB
        have hF5 := (hA.disk 0 rfl).lt
        go_wp2_with fail
        refine (read_thing (hB.disk 0 rfl) cmc.dead k (show k < cc.n by rw [ENC.out]; exact hlt)).mono ?_
        rintro e wy ⟨gb, cb, rfl, hgb, hO2, hD2, hk2⟩
        have hC := hB.upd 0 rfl hk2 (t' := diskThing _ { cc with reads := wrap64 (r1 + 1) } F5) hD2 (From.refl _ _)
        simp only [List.set_cons_succ, List.set_cons_zero] at hC
        have hO1 : OwnB wy _ _ := ownsRow_keep hO (fun j hj => hk2.block j (World.ownsRow.lt hO j hj).2 (fun hm => by
          simp only [Value.ownBlock, Option.some.injEq] at hj
          have := hF5 j hm
          omega))
        go_wp2_with fail
        refine (same_true (ownB_bytes hO1) (ownB_bytes hO2) EPQ.out).mono ?_
        rintro e wz ⟨rfl, hk3⟩
        have hE := hC.keep hk3
        go_wp2_with fail
        go_roundw
        case rel =>
          refine ⟨k + 1, by omega, by go_num, wrap64 (r1 + 1), wrap64 (r2 + 1), ?_⟩
          rw [HL6.out]
          exact hE
        case measure => simp [intOf]; omega
      · go_wp2_with fail
        refine (pages_len (hA.disk 2 rfl) EN2.out).mono ?_
        rintro e w' ⟨rfl, rfl⟩
        obtain ⟨dd, hdd⟩ : ∃ dd : D, dd = { d2 with reads := r2 } := ⟨_, rfl⟩
        obtain ⟨cd, hcd⟩ : ∃ cd : D, cd = { cc with reads := r1 } := ⟨_, rfl⟩
        rw [← hdd, ← hcd] at hA
        have cmd : Calm dd := by rw [hdd]; exact ⟨cm2.dead, cm2.armed⟩
        have cmd' : Calm cd := by rw [hcd]; exact ⟨cmc.dead, cmc.armed⟩
        obtain ⟨p1, p2, p3, p4, p5, p6, p7⟩ := D.lays_off cmd.armed ws2
        obtain ⟨q1, q2, q3, q4, q5, q6, q7⟩ := D.lays_off cmd'.armed ws3
        have eq1 : dd.q.length = 0 := by rw [hdd]; exact congrArg List.length HQ2.out
        have eq2 : cd.q.length = 0 := by rw [hcd]; exact congrArg List.length HQC.out
        have eq3 : (dd.lays ws2).q.length = ws2.length := by rw [p6, List.length_append, eq1]; simp
        have eq4 : (cd.lays ws3).q.length = ws3.length := by rw [q6, List.length_append, eq2]; simp
        have eq5 : (cd.lays ws3).epoch = 0 := by rw [q5, hcd]; exact EEC.out
        have edi : ((dd.lays ws2).crash []).sync.img = d2.img := by
          show synced (crashed (dd.lays ws2).img (dd.lays ws2).q []) [] = _
          rw [crashed_nil, p4, hdd]
          rfl
        have exi : (d0.lays ws1).sync.img = d2.img := by rw [HD2.out]
        have eci : (cd.lays ws3).sync.img = ((d0.lays ws1).lays ws3).sync.img := by
          obtain ⟨s1, s2, s3, s4, s5, s6, s7⟩ := D.lays_off cm0.armed ws1
          obtain ⟨u1, u2, u3, u4, u5, u6, u7⟩ := D.lays_off s1 ws3
          show synced (cd.lays ws3).img (cd.lays ws3).q = synced ((d0.lays ws1).lays ws3).img ((d0.lays ws1).lays ws3).q
          rw [q4, q6, u4, u6, s4, s6, HQ0.out, s3, EN0.out, hcd]
          show synced cc.img (cc.q ++ ws3.map (fun o => (o.at cc.n, o.bytes))) = _
          rw [HQC.out, ENC.out, EIC.out, EI2.out]
          simp [synced]
        have EQ3 := Lib.hid eq3
        have EQ4 := Lib.hid eq4
        have EQ5 := Lib.hid eq5
        have EDI := Lib.hid edi
        have EXI := Lib.hid exi
        have ECI := Lib.hid eci
        have cme := cmd.lays ws2
        have cme' := cmd'.lays ws3
        have cmf : Calm ((dd.lays ws2).crash []) := ⟨rfl, rfl⟩
        clear hdd hcd p1 p2 p3 p4 p5 p6 p7 q1 q2 q3 q4 q5 q6 q7 eq3 eq4 eq5 edi exi eci
        go_wp2_with fail
        refine (lLays_any (hA.disk 2 rfl) cmd.dead cmd.armed (HW2.out _ hA.below) (hA.ge 2 rfl) HO2.out (by omega)).mono ?_
        rintro e w11 ⟨rfl, hk, F11, hD, hF⟩
        have K11 := hA.upd 2 rfl hk (t' := diskThing _ _ F11) hD hF
        simp only [List.set_cons_succ, List.set_cons_zero] at K11
        clear hk hD hF hA
        go_wp2_with fail
        refine (lLays_any (K11.disk 0 rfl) cmd'.dead cmd'.armed (HW3.out _ K11.below) (K11.ge 0 rfl) HO3.out (by omega)).mono ?_
        rintro e w12 ⟨rfl, hk, F12, hD, hF⟩
        have K12 := K11.upd 0 rfl hk (t' := diskThing _ _ F12) hD hF
        simp only [List.set_cons_succ, List.set_cons_zero] at K12
        clear hk hD hF K11
        go_wp2_with fail
        refine (crash_thing (fates := []) (K12.disk 2 rfl) (BytesAt_nil _) (by simp [Value.elemBlock]) EQ3.out).mono ?_
        rintro e w13 ⟨rfl, hk, F13, hD, hF⟩
        have K13 := K12.upd 2 rfl hk (t' := diskThing _ _ F13) hD hF
        simp only [List.set_cons_succ, List.set_cons_zero] at K13
        clear hk hD hF K12
        go_wp2_with fail
        refine (epoch_thing (K13.disk 0 rfl) EQ5.out).mono ?_
        rintro e w' ⟨rfl, rfl⟩
        go_wp2_with fail
        refine (counts_thing (K13.disk 0 rfl) EQ4.out).mono ?_
        rintro e w14 ⟨x1, x2, x3, rfl, hk⟩
        have hfd := field_open w14 x1 x2 x3 (ws3.length : Int)
        have K14 := K13.keep hk
        clear hk K13
        have b5 : ((ws3.length : Int) != (ws3.length : Int)) = false := by simp
        have b6 : ((ws2.length : Int) != (ws2.length : Int)) = false := by simp
        go_wp2_with fail
        refine (sync_thing (K14.disk 0 rfl) cme').mono ?_
        rintro e w15 ⟨rfl, hk, F15, hD, hF⟩
        have K15 := K14.upd 0 rfl hk (t' := diskThing _ _ F15) hD hF
        simp only [List.set_cons_succ, List.set_cons_zero] at K15
        clear hk hD hF K14
        go_wp2_with fail
        refine (sync_thing (K15.disk 2 rfl) cmf).mono ?_
        rintro e w16 ⟨rfl, hk, F16, hD, hF⟩
        have K16 := K15.upd 2 rfl hk (t' := diskThing _ _ F16) hD hF
        simp only [List.set_cons_succ, List.set_cons_zero] at K16
        clear hk hD hF K15
        go_wp2_with fail
        refine (CF.out _).mono ?_
        rintro e w17 ⟨rfl, hk, F17, hD, hF⟩
        have K17 := K16.add (t := diskThing _ _ F17) hk hD hF
        clear hk hD hF K16
        go_wp2_with fail
        refine (CF.out _).mono ?_
        rintro e w18 ⟨rfl, hk, F18, hD, hF⟩
        have K18 := K17.add (t := diskThing _ _ F18) hk hD hF
        clear hk hD hF K17
        have cmx := cm0.lays ws1
        have eqx : (d0.lays ws1).q.length = ws1.length := by rw [(D.lays_off cm0.armed ws1).2.2.2.2.2.1, HQ0.out]; simp
        go_wp2_with fail
        refine (lLays_any (K18.disk 1 rfl) cm0.dead cm0.armed (HW1.out _ K18.below) (K18.ge 1 rfl) HO1.out (by omega)).mono ?_
        rintro e w19 ⟨rfl, hk, F19, hD, hF⟩
        have K19 := K18.upd 1 rfl hk (t' := diskThing _ _ F19) hD hF
        simp only [List.set_cons_succ, List.set_cons_zero] at K19
        clear hk hD hF K18
        go_wp2_with fail
        refine (lLays_any (K19.disk 0 rfl) cm0.dead cm0.armed (HW1.out _ K19.below) (K19.ge 0 rfl) HO1.out (by omega)).mono ?_
        rintro e w20 ⟨rfl, hk, F20, hD, hF⟩
        have K20 := K19.upd 0 rfl hk (t' := diskThing _ _ F20) hD hF
        simp only [List.set_cons_succ, List.set_cons_zero] at K20
        clear hk hD hF K19
        go_wp2_with fail
        refine (lLays_any (K20.disk 0 rfl) cmx.dead cmx.armed (HW3.out _ K20.below) (K20.ge 0 rfl) HO3.out (by omega)).mono ?_
        rintro e w21 ⟨rfl, hk, F21, hD, hF⟩
        have K21 := K20.upd 0 rfl hk (t' := diskThing _ _ F21) hD hF
        simp only [List.set_cons_succ, List.set_cons_zero] at K21
        clear hk hD hF K20
        have cmy := cmx.lays ws3
        go_wp2_with fail
        refine (sync_thing (K21.disk 1 rfl) cmx).mono ?_
        rintro e w22 ⟨rfl, hk, F22, hD, hF⟩
        have K22 := K21.upd 1 rfl hk (t' := diskThing _ _ F22) hD hF
        simp only [List.set_cons_succ, List.set_cons_zero] at K22
        clear hk hD hF K21
        go_wp2_with fail
        refine (sync_thing (K22.disk 0 rfl) cmy).mono ?_
        rintro e w23 ⟨rfl, hk, F23, hD, hF⟩
        have K23 := K22.upd 0 rfl hk (t' := diskThing _ _ F23) hD hF
        simp only [List.set_cons_succ, List.set_cons_zero] at K23
        clear hk hD hF K22
        go_wp2_with fail
        refine (image_thing (K23.disk 4 rfl)).mono ?_
        rintro e w24 ⟨g24, c24, rfl, hg24, hO, hk⟩
        have K24 := K23.add hk (t := bytesThing _ _) hO (fun k hk' => .inr (by simp [bytesThing, Value.ownBlock] at hk'; omega))
        clear hO hk K23
        go_wp2_with fail
        refine (image_thing (K24.disk 2 rfl)).mono ?_
        rintro e w25 ⟨g25, c25, rfl, hg25, hO, hk⟩
        have K25 := K24.add hk (t := bytesThing _ _) hO (fun k hk' => .inr (by simp [bytesThing, Value.ownBlock] at hk'; omega))
        clear hO hk K24
        go_wp2_with fail
        refine (same_true (ownB_bytes (K25.bytes 1 rfl)) (ownB_bytes (K25.bytes 0 rfl)) (EDI.out.trans EXI.out.symm)).mono ?_
        rintro e w26 ⟨rfl, hk⟩
        have K26 := K25.keep hk
        clear hk K25
        go_wp2_with fail
        refine (image_thing (K26.disk 4 rfl)).mono ?_
        rintro e w27 ⟨g27, c27, rfl, hg27, hO, hk⟩
        have K27 := K26.add hk (t := bytesThing _ _) hO (fun k hk' => .inr (by simp [bytesThing, Value.ownBlock] at hk'; omega))
        clear hO hk K26
        go_wp2_with fail
        refine (image_thing (K27.disk 3 rfl)).mono ?_
        rintro e w28 ⟨g28, c28, rfl, hg28, hO, hk⟩
        have K28 := K27.add hk (t := bytesThing _ _) hO (fun k hk' => .inr (by simp [bytesThing, Value.ownBlock] at hk'; omega))
        clear hO hk K27
        go_wp2_with fail
        refine (same_true (ownB_bytes (K28.bytes 1 rfl)) (ownB_bytes (K28.bytes 0 rfl)) ECI.out).mono ?_
        rintro e w29 ⟨rfl, hk⟩
        have K29 := K28.keep hk
        clear hk K28
        go_wp2_with fail
        go_ret
        exact ⟨rfl, K29.below⟩
end Go.Proofs.Ytbjffjplpnnhoaa
