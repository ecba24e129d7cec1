/-
  The walk of ledgerlaw4.DiskFlips.
-/
import Derived.Test.YtbjffjplpnnhoaaFlB
import Derived.Test.YtbjffjplpnnhoaaLsA
import Derived.Deep.DeepCutAuto
import Derived.Deep.CutBlock
namespace Go.Proofs.Ytbjffjplpnnhoaa
set_option linter.unusedVariables false
set_option linter.unusedSimpArgs false
open Go.RowKit

theorem flip_page_thing {w : World} {b : Nat} {d : D} {F : List Nat} (h : DiskAt w b d F) {page bit pat : Int} (hp : page < 0 ∨ (d.n : Int) ≤ page) :
    Calls Try.prog 22 #[.pointer (some ⟨b, 0, none⟩), .int .i64 page, .int .i64 bit, .int .u32 pat] w fun e w' => e = .returned (.int .i64 41) ∧ w = w' := by
  obtain ⟨bp, qv, bm, hI, rfl⟩ := h
  exact dFlip_page hI.cells.2.2.2.2.1 hp
theorem flip_arg_thing {w : World} {b : Nat} {d : D} {F : List Nat} (h : DiskAt w b d F) {page bit pat : Int} (hp : 0 ≤ page) (hp1 : page < d.n) (hb : bit < 0 ∨ 2048 ≤ bit) :
    Calls Try.prog 22 #[.pointer (some ⟨b, 0, none⟩), .int .i64 page, .int .i64 bit, .int .u32 pat] w fun e w' => e = .returned (.int .i64 1) ∧ w = w' := by
  obtain ⟨bp, qv, bm, hI, rfl⟩ := h
  exact dFlip_arg hI.cells.2.2.2.2.1 hp hp1 hb
theorem flip_thing {w : World} {b : Nat} {d d' : D} {F : List Nat} (h : DiskAt w b d F) (page bit p : Nat) (hp : page < d.n) (hb : bit < 2048) (hpat : p < 4294967296) (he : d' = { d with img := flipK d.img (2048 * page + bit) p (min 32 (2048 - bit)) }) :
    Calls Try.prog 22 #[.pointer (some ⟨b, 0, none⟩), .int .i64 page, .int .i64 bit, .int .u32 p] w fun e w' => e = .returned (.int .i64 0) ∧ Keeps F w w' ∧ DiskAt w' b d' F := by
  subst he
  obtain ⟨bp, qv, bm, hI, rfl⟩ := h
  refine (dFlip_ok hI page bit p hp hb hpat).mono ?_
  rintro e w' ⟨rfl, hI', hk⟩
  exact ⟨rfl, hk.mono (by simp), bp, qv, bm, hI', rfl⟩
theorem shr_and (a b : UInt8) {t : Nat} (ht : t < 8) (h : (((a ^^^ b).toNat / 2 ^ t) % 2 == 1) = true) : bits BinOp.and IntKind.u8 (((a ^^^ b).toNat : Int) / 2 ^ t) 1 = 1 := by
  have key : ∀ (n : Fin 256) (t : Fin 8), (n.val / 2 ^ t.val % 2 == 1) = true → bits BinOp.and IntKind.u8 ((n.val : Int) / 2 ^ t.val) 1 = 1 := by decide +kernel
  exact key ⟨(a ^^^ b).toNat, (a ^^^ b).toNat_lt⟩ ⟨t, ht⟩ h

set_option maxRecDepth 100000 in
set_option maxHeartbeats 6400000 in
theorem flips_walk {w : World} (n : Int) (n0 : -9223372036854775808 ≤ n) (n1 : n ≤ 9223372036854775807) (page : Int) (pg0 : -9223372036854775808 ≤ page) (pg1 : page ≤ 9223372036854775807) (bit : Int) (bi0 : -9223372036854775808 ≤ bit) (bi1 : bit ≤ 9223372036854775807)
    (pat : Int) (pa0 : 0 ≤ pat) (pa1 : pat ≤ 4294967295) {v1 : Value} {ws1 : List Wr} (h1 : WsAt w w.heap.size v1 ws1) (ok1 : ∀ o ∈ ws1, o.ok) (l1 : ws1.length ≤ 1048576) :
    Calls Try.prog 6 #[.int .i64 n, v1, .int .i64 page, .int .i64 bit, .int .u32 pat] w fun e w' => e = .returned (.bool true) ∧ Below w.heap.size w w' := by
  obtain ⟨a1, c1, rfl, hc1, hm1⟩ := h1.form
  unfold maxLen at hm1
  have H0 := At.start w
  obtain ⟨m, hm⟩ : ∃ m, m = (n % 8).toNat + 3 := ⟨_, rfl⟩
  have cF := fun (w : World) => lFresh_any (w := w) n n0 n1
  rw [← hm] at cF
  have CF := Lib.hid cF
  have HW1 := Lib.hid h1
  have HO1 := Lib.hid ok1
  clear cF hm h1 ok1
  go_enter Try.func6, Try.ntmps6
  go_wp2_with fail
  refine (CF.out w).mono ?_
  rintro e wa ⟨rfl, hka, Fa, hDa, hFa⟩
  have Hc := H0.add (t := diskThing _ _ Fa) hka hDa hFa
  clear hka hDa hFa H0 CF
  obtain ⟨d0, hd0⟩ : ∃ d0, d0 = D.new m := ⟨_, rfl⟩
  rw [← hd0] at Hc
  have cm0 : Calm d0 := by rw [hd0]; exact Calm.new m
  have e0 : d0.q.length = 0 := by rw [hd0]; rfl
  have en0 : d0.n = m := by rw [hd0]; rfl
  obtain ⟨b, hb⟩ : ∃ b, b = w.heap.size + 2 := ⟨_, rfl⟩
  rw [← hb] at Hc ⊢
  have EN0 := Lib.hid en0
  clear hd0 en0 hb
  go_wp2_with fail
  refine (lLays_any (Hc.disk 0 rfl) cm0.dead cm0.armed (HW1.out.below Hc.below) (Hc.ge 0 rfl) HO1.out (by omega)).mono ?_
  rintro e w1 ⟨rfl, hk, F1, hD, hF⟩
  have H1 := Hc.upd 0 rfl hk (t' := diskThing _ _ F1) hD hF
  simp only [List.set_cons_succ, List.set_cons_zero] at H1
  clear hk hD hF Hc
  have cm1 := cm0.lays ws1
  have en1 : (d0.lays ws1).n = m := (D.lays_off cm0.armed ws1).2.2.1.trans EN0.out
  go_wp2_with fail
  refine (sync_thing (H1.disk 0 rfl) cm1).mono ?_
  rintro e w2 ⟨rfl, hk, F2, hD, hF⟩
  have H2 := H1.upd 0 rfl hk (t' := diskThing _ _ F2) hD hF
  simp only [List.set_cons_succ, List.set_cons_zero] at H2
  clear hk hD hF H1
  have cm2 := cm1.sync
  obtain ⟨d2, hd2⟩ : ∃ d2, d2 = (d0.lays ws1).sync := ⟨_, rfl⟩
  rw [← hd2] at H2 cm2
  have hq2 : d2.q = [] := by rw [hd2]; rfl
  have en2 : d2.n = m := by rw [hd2]; unfold D.sync; exact (D.act_n _).trans en1
  have ok2 := (H2.disk 0 rfl).ok
  have m3 : 3 ≤ m := by rw [← en2]; exact ok2.1
  have m4 : m ≤ 4096 := by rw [← en2]; exact ok2.2.1
  have hI2 : d2.img.length = 256 * m := by rw [← en2]; exact ok2.2.2.1
  have I2 := Lib.hid hI2
  have EN2 := Lib.hid en2
  have HQ2 := Lib.hid hq2
  have CM2 := Lib.hid cm2
  have HH2 := Lib.hid H2
  clear hd2 cm1 e0 cm0 en1 EN0 hI2 en2 hq2 cm2 ok2 H2
  go_wp2_with fail
  refine (pages_len (HH2.out.disk 0 rfl) EN2.out).mono ?_
  rintro e wb ⟨rfl, rfl⟩
  go_wp2_with fail
  refine (image_len (HH2.out.disk 0 rfl) I2.out).mono ?_
  rintro e w3 ⟨gi, ci, rfl, hgi, hO, hk⟩
  have H3 := Lib.hid (HH2.out.add hk (t := bytesThing _ _) hO (fun k hk' => .inr (by simp [bytesThing, Value.ownBlock] at hk'; omega)))
  clear hO hk HH2
  go_wp2_with fail
  by_cases hpv : 0 ≤ page ∧ page < (m : Int)
  · obtain ⟨hpv0, hpv1⟩ := hpv
    obtain ⟨P, rfl⟩ : ∃ P : Nat, page = P := ⟨page.toNat, by omega⟩
    have hP : P < m := by omega
    have pp1 : ¬ (P : Int) < 0 := by omega
    have pp2 : ¬ (m : Int) ≤ (P : Int) := by omega
    by_cases hbv : 0 ≤ bit ∧ bit < 2048
    · obtain ⟨hbv0, hbv1⟩ := hbv
      obtain ⟨Q, rfl⟩ : ∃ Q : Nat, bit = Q := ⟨bit.toNat, by omega⟩
      obtain ⟨p, rfl⟩ : ∃ p : Nat, pat = p := ⟨pat.toNat, by omega⟩
      have hQ : Q < 2048 := by omega
      have qq1 : ¬ (Q : Int) < 0 := by omega
      have qq2 : ¬ (2048 : Int) ≤ (Q : Int) := by omega
      have hpl : p < 4294967296 := by omega
      obtain ⟨KK, hKK⟩ : ∃ KK, KK = min 32 (2048 - Q) := ⟨_, rfl⟩
      obtain ⟨X, hX⟩ : ∃ X, X = 2048 * P + Q := ⟨_, rfl⟩
      have hKl : KK ≤ 32 := by omega
      have hKm : Q + KK ≤ 2048 := by omega
      have hKe : KK = 32 ∨ Q + KK = 2048 := by omega
      have hfit : X + KK ≤ 8 * (256 * m) := by omega
      obtain ⟨d3, hd3⟩ : ∃ d3 : D, d3 = { d2 with img := flipK d2.img X p KK } := ⟨_, rfl⟩
      have ei3 : d3.img = flipK d2.img X p KK := by rw [hd3]
      have en3 : d3.n = m := by rw [hd3]; exact EN2.out
      have hq3 : d3.q = [] := by rw [hd3]; exact HQ2.out
      have cm3 : Calm d3 := by rw [hd3]; exact ⟨CM2.out.dead, CM2.out.armed⟩
      have hI3 : d3.img.length = 256 * m := by rw [ei3, flipK_length]; exact I2.out
      have EI3 := Lib.hid ei3
      have EN3 := Lib.hid en3
      have HQ3 := Lib.hid hq3
      have CM3 := Lib.hid cm3
      have I3 := Lib.hid hI3
      have HX := Lib.hid hX
      have HKK := Lib.hid hKK
      refine (flip_thing (d' := d3) (H3.out.disk 1 rfl) P Q p (by rw [EN2.out]; exact hP) hQ hpl (by rw [← hX, ← hKK]; exact hd3)).mono ?_
      clear ei3 en3 hq3 cm3 hI3 hX hKK hd3
      rintro e w4 ⟨rfl, hk, hD⟩
      have H4 := H3.out.upd 1 rfl hk (t' := diskThing _ _ F2) hD (From.refl _ _)
      simp only [List.set_cons_succ, List.set_cons_zero] at H4
      clear hk hD H3
      go_wp2_with fail
      refine (image_len (H4.disk 1 rfl) I3.out).mono ?_
      rintro e w5 ⟨g5, c5, rfl, hg5, hO, hk⟩
      have H5 := Lib.hid (H4.add hk (t := bytesThing _ _) hO (fun k hk' => .inr (by simp [bytesThing, Value.ownBlock] at hk'; omega)))
      clear hO hk H4
      have x0 : ((256 * (m : Int)) != 256 * (m : Int)) = false := by simp
      go_upto_block 0 with fail
      go_cut [16] (fun s wx => s = .int .i64 (cnt (fun i => p.testBit i) KK : Nat) ∧ At w wx [bytesThing (.slice (some ⟨g5, 0, none⟩) (256 * m) c5) d3.img, bytesThing (.slice (some ⟨gi, 0, none⟩) (256 * m) ci) d2.img, diskThing b d3 F2])
      case first =>
        go_wp2_with fail
        go_loopw [16, 17] (fun s i wr => ∃ k : Nat, k ≤ KK ∧ s = .int .i64 (cnt (fun i => p.testBit i) k : Nat) ∧ i = .int .i64 k ∧ At w wr [bytesThing (.slice (some ⟨g5, 0, none⟩) (256 * m) c5) d3.img, bytesThing (.slice (some ⟨gi, 0, none⟩) (256 * m) ci) d2.img, diskThing b d3 F2]) (fun _ i _ => 32 - (intOf i).toNat)
        case atStart => exact ⟨0, Nat.zero_le _, rfl, rfl, H5.out⟩
        case round =>
          obtain ⟨k, hk, rfl, rfl, hat⟩ := hrel
          have HAT := Lib.hid hat
          have hcl := cnt_le (fun i => p.testBit i) k
          have hcs : cnt (fun i => p.testBit i) (k + 1) = cnt (fun i => p.testBit i) k + if p.testBit k then 1 else 0 := rfl
          obtain ⟨q, hq⟩ : ∃ q, q = cnt (fun i => p.testBit i) k := ⟨_, rfl⟩
          rw [← hq] at hcl hcs ⊢
          have HQQ := Lib.hid hq
          have HCS := Lib.hid hcs
          clear hat hq hcs
          by_cases hkk : k < KK
          · have k1 : (k : Int) < 32 := by omega
            have k2 : (Q : Int) + (k : Int) < 2048 := by omega
            have w1' : IntKind.i64.wrap ((Q : Int) + (k : Int)) = (Q : Int) + (k : Int) := IntWalk.i64_in _ (by omega)
            have hdl : p / 2 ^ k < 4294967296 := Nat.lt_of_le_of_lt (Nat.div_le_self _ _) hpl
            obtain ⟨R, hR⟩ : ∃ R, R = p / 2 ^ k := ⟨_, rfl⟩
            have hdv : (p : Int) / 2 ^ k = (R : Int) := by rw [hR]; simp
            have hand := and32_one R (by rw [hR]; exact hdl)
            have hb2 := bit_of p k
            rw [← hR] at hb2
            rw [hb2] at hand
            have k0 : (0 : Int) ≤ (k : Int) := by omega
            clear hb2 hR hdl
            by_cases htb : p.testBit k = true
            · rw [if_pos htb] at hand
              have hcs1 : cnt (fun i => p.testBit i) (k + 1) = q + 1 := by rw [HCS.out, if_pos htb]
              obtain ⟨at', hat'⟩ : ∃ x, x = X + k := ⟨_, rfl⟩
              obtain ⟨J, hJ⟩ : ∃ J, J = at' / 8 := ⟨_, rfl⟩
              obtain ⟨T, hT⟩ : ∃ T, T = at' % 8 := ⟨_, rfl⟩
              have hXX := HX.out
              have hJl : J < 256 * m := by omega
              have hTl : T < 8 := by omega
              have f1 := (HAT.out.bytes 0 rfl).cell J (by rw [I3.out]; exact hJl)
              have f2 := (HAT.out.bytes 1 rfl).cell J (by rw [I2.out]; exact hJl)
              obtain ⟨x, hx⟩ : ∃ x, x = d3.img[J]'(by rw [I3.out]; exact hJl) := ⟨_, rfl⟩
              obtain ⟨y, hy⟩ : ∃ y, y = d2.img[J]'(by rw [I2.out]; exact hJl) := ⟨_, rfl⟩
              rw [← hx] at f1
              rw [← hy] at f2
              have f1' : wr.cell? ⟨g5, J, none⟩ = some (.int .u8 x.toNat) := f1
              have f2' : wr.cell? ⟨gi, J, none⟩ = some (.int .u8 y.toNat) := f2
              have hfb := flip_bit d2.img X p KK k (by rw [I2.out]; exact hfit) hkk htb
              rw [← EI3.out, ← hat', ← hJ, ← hT, List.getD_eq_getElem?_getD, List.getD_eq_getElem?_getD, List.getElem?_eq_getElem (by rw [I3.out]; exact hJl), List.getElem?_eq_getElem (by rw [I2.out]; exact hJl), Option.getD_some, Option.getD_some, ← hx, ← hy] at hfb
              have e1 := xor_bytes x y
              have e2 := shr_and x y hTl hfb
              obtain ⟨z, hz⟩ : ∃ z, z = x ^^^ y := ⟨_, rfl⟩
              rw [← hz] at e1 e2
              have a1' : IntKind.i64.wrap (2048 * (P : Int)) = 2048 * (P : Int) := IntWalk.i64_in _ (by omega)
              have a2' : IntKind.i64.wrap (2048 * (P : Int) + (Q : Int)) = 2048 * (P : Int) + (Q : Int) := IntWalk.i64_in _ (by omega)
              have a3' : 2048 * (P : Int) + (Q : Int) + (k : Int) = (at' : Int) := by omega
              have a4' : IntKind.i64.wrap (at' : Int) = (at' : Int) := IntWalk.i64_in _ (by omega)
              have d1 : (at' : Int) / 8 = (J : Int) := by omega
              have d2' : (at' : Int) % 8 = (T : Int) := by omega
              have d3' : (at' : Int).tdiv 8 = (J : Int) := by rw [Int.tdiv_eq_ediv_of_nonneg (by omega)]; omega
              have d4 : (at' : Int).tmod 8 = (T : Int) := by rw [Int.tmod_eq_emod_of_nonneg (by omega)]; omega
              have d5 : IntKind.i64.wrap (J : Int) = (J : Int) := IntWalk.i64_in _ (by omega)
              have j0 : (0 : Int) ≤ (J : Int) := by omega
              have j1 : (J : Int) < 256 * (m : Int) := by omega
              have j2 : (J : Int) < ((256 * m : Nat) : Int) := by omega
              have t1 : (0 : Int) ≤ (T : Int) := by omega
              have t2 : IntKind.u64.wrap (T : Int) = (T : Int) := by rw [IntKind.wrap_u64]; omega
              have k3 : IntKind.u64.wrap (k : Int) = (k : Int) := by rw [IntKind.wrap_u64]; omega
              have HC1 := Lib.hid hcs1
              clear hcs1 hXX f1 f2 hx hy hz hfb hat' hJ hT htb
              go_wp2_with fail
              go_quiet (fail)
              go_wp2_with fail
              go_roundw
              case rel => exact ⟨k + 1, by omega, by rw [HC1.out]; go_num, by go_num, HAT.out.keep ((Keeps.refl _ _).drewN _)⟩
              case measure => simp [intOf]; omega
            · rw [if_neg htb] at hand
              have hcs1 : cnt (fun i => p.testBit i) (k + 1) = q := by rw [HCS.out, if_neg htb]; rfl
              have k3 : IntKind.u64.wrap (k : Int) = (k : Int) := by rw [IntKind.wrap_u64]; omega
              have HC1 := Lib.hid hcs1
              clear hcs1 htb
              go_wp2_with fail
              go_roundw
              case rel => exact ⟨k + 1, by omega, by rw [HC1.out], by go_num, HAT.out⟩
              case measure => simp [intOf]; omega
          · have e : k = KK := by omega
            have HE := Lib.hid e
            by_cases hk32 : (k : Int) < 32
            · have k2 : ¬ (Q : Int) + (k : Int) < 2048 := by omega
              have w1' : IntKind.i64.wrap ((Q : Int) + (k : Int)) = (Q : Int) + (k : Int) := IntWalk.i64_in _ (by omega)
              clear e
              go_wp2_with fail
              go_meet
              case rel => exact ⟨by rw [HQQ.out, HE.out], HAT.out⟩
            · clear e
              go_wp2_with fail
              go_meet
              case rel => exact ⟨by rw [HQQ.out, HE.out], HAT.out⟩
      case rest =>
        obtain ⟨rfl, hat⟩ := hcut
        have H6 := Lib.hid hat
        clear hat H5
        have hpf := pops_flip d2.img X p KK (by rw [I2.out]; exact hfit)
        rw [← EI3.out, I2.out, ← I3.out] at hpf
        obtain ⟨ins, hins⟩ : ∃ ins, ins = cnt (fun i => p.testBit i) KK := ⟨_, rfl⟩
        rw [← hins] at hpf ⊢
        have cB := lBits_any (ownB_bytes (H6.out.bytes 0 rfl)) (ownB_bytes (H6.out.bytes 1 rfl)) (by rw [I3.out, I2.out]) (by rw [I3.out]; omega) hpf
        have CB := Lib.hid cB
        clear cB hpf hins
        have x1 : ((ins : Int) != (ins : Int)) = false := by simp
        go_wp2_with fail
        refine CB.out.mono ?_
        rintro e w7 ⟨rfl, hk⟩
        have H7 := Lib.hid (H6.out.keep hk)
        clear hk H6 CB
        go_wp2_with fail
        -- once more
        have hft := flip_twice d2.img X p KK (by rw [I2.out]; exact hfit)
        obtain ⟨d4, hd4⟩ : ∃ d4 : D, d4 = { d3 with img := flipK d3.img X p KK } := ⟨_, rfl⟩
        have ei4 : d4.img = d2.img := by rw [hd4, ← hft, ← EI3.out]
        have en4 : d4.n = m := by rw [hd4]; exact EN3.out
        have hq4 : d4.q = [] := by rw [hd4]; exact HQ3.out
        have cm4 : Calm d4 := by rw [hd4]; exact ⟨CM3.out.dead, CM3.out.armed⟩
        have hI4 : d4.img.length = 256 * m := by rw [ei4]; exact I2.out
        have EI4 := Lib.hid ei4
        have EN4 := Lib.hid en4
        have HQ4 := Lib.hid hq4
        have CM4 := Lib.hid cm4
        have I4 := Lib.hid hI4
        refine (flip_thing (d' := d4) (H7.out.disk 2 rfl) P Q p (by rw [EN3.out]; exact hP) hQ hpl (by rw [← HX.out, ← HKK.out]; exact hd4)).mono ?_
        clear hft ei4 en4 hq4 cm4 hI4 hd4
        rintro e w8 ⟨rfl, hk, hD⟩
        have H8 := H7.out.upd 2 rfl hk (t' := diskThing _ _ F2) hD (From.refl _ _)
        simp only [List.set_cons_succ, List.set_cons_zero] at H8
        clear hk hD H7
        go_wp2_with fail
        refine (image_len (H8.disk 2 rfl) I4.out).mono ?_
        rintro e w9 ⟨g9, c9, rfl, hg9, hO, hk⟩
        have H9 := H8.add hk (t := bytesThing _ _) hO (fun k hk' => .inr (by simp [bytesThing, Value.ownBlock] at hk'; omega))
        clear hO hk H8
        go_wp2_with fail
        refine (same_true (ownB_bytes (H9.bytes 0 rfl)) (ownB_bytes (H9.bytes 2 rfl)) EI4.out).mono ?_
        rintro e w10 ⟨rfl, hk⟩
        have H10 := Lib.hid (H9.keep hk)
        clear hk H9
        -- over
        obtain ⟨w11, hw11⟩ : ∃ w11, w11 = w10.alloc (.cells ((List.replicate 256 (0 : UInt8)).map B).toArray 5 (0, 0)) := ⟨_, rfl⟩
        have hmk := make_bytes w10 256 (by omega)
        have hown := own_made w10 256 (by omega)
        rw [← hw11] at hmk hown
        have H11 := Lib.hid (H10.out.add (t := bytesThing _ _) (by rw [hw11]; exact (Keeps.refl _ _).alloc _) hown (fun k hk' => .inr (by simp [bytesThing, Value.ownBlock] at hk'; omega)))
        have HMK := Lib.hid hmk
        have g11 : w10.heap.size < w11.heap.size := by rw [hw11]; simp
        obtain ⟨go, hgo⟩ : ∃ go, go = w10.heap.size := ⟨_, rfl⟩
        obtain ⟨O, hO⟩ : ∃ O, O = List.replicate 256 (0 : UInt8) := ⟨_, rfl⟩
        rw [← hgo, ← hO] at H11
        rw [← hgo] at HMK
        have hOl : O.length = 256 := by rw [hO]; simp
        have HOL := Lib.hid hOl
        clear hmk hown hw11 hgo hO H10 hOl
        go_wp2_with (refine wl_makeSlice rfl 29 (.const (.int .i64 256)) (.const (.int .i64 256)) rfl ?_; refine ⟨_, _, HMK.out, ?_⟩; try simp only [Act.put, List.setIfInBounds_toArray, List.set_cons_zero, List.set_cons_succ, List.getElem_toArray, List.getElem_cons_zero, List.getElem_cons_succ])
        refine (write_thing (H11.out.disk 4 rfl) CM4.out.dead P (by rw [EN4.out]; exact hP) HOL.out (H11.out.bytes 0 rfl) (by rw [HQ4.out]; simp) (r := 0) (by rw [if_neg (by rw [CM4.out.armed]; omega)])).mono ?_
        rintro e w12 ⟨rfl, hk, F12, hD, hF⟩
        have H12 := H11.out.upd 4 rfl hk (t' := diskThing _ _ F12) hD hF
        simp only [List.set_cons_succ, List.set_cons_zero] at H12
        clear hk hD hF H11 HMK
        have hw5 := D.write_off CM4.out.armed P O
        rw [HQ4.out, List.nil_append] at hw5
        obtain ⟨d5, hd5⟩ : ∃ d5, d5 = d4.write P O := ⟨_, rfl⟩
        rw [← hd5] at H12 hw5
        have en5 : d5.n = m := by rw [hw5]; exact EN4.out
        have hq5 : d5.q = [(P, O)] := by rw [hw5]
        have cm5 : Calm d5 := by rw [hw5]; exact ⟨CM4.out.dead, CM4.out.armed⟩
        obtain ⟨d6, hd6⟩ : ∃ d6 : D, d6 = { d5 with img := flipK d5.img X p KK } := ⟨_, rfl⟩
        have en6 : d6.n = m := by rw [hd6]; exact en5
        have hq6 : d6.q = [(P, O)] := by rw [hd6]; exact hq5
        have cm6 : Calm d6 := by rw [hd6]; exact ⟨cm5.dead, cm5.armed⟩
        have EN5 := Lib.hid en5
        have EN6 := Lib.hid en6
        have HQ6 := Lib.hid hq6
        have CM6 := Lib.hid cm6
        have HD6 := Lib.hid hd6
        have H12 := Lib.hid H12
        clear hd5 hw5 en5 hq5 cm5 hd6 en6 hq6 cm6
        go_wp2_with fail
        refine (flip_thing (d' := d6) (H12.out.disk 4 rfl) P Q p (by rw [EN5.out]; exact hP) hQ hpl (by rw [← HX.out, ← HKK.out]; exact HD6.out)).mono ?_
        rintro e w13 ⟨rfl, hk, hD⟩
        have H13 := H12.out.upd 4 rfl hk (t' := diskThing _ _ F12) hD (From.refl _ _)
        simp only [List.set_cons_succ, List.set_cons_zero] at H13
        clear hk hD H12
        have hrd : d6.read P = O := by
          unfold D.read
          rw [HQ6.out]
          simp [newest]
        have cR := read_thing (H13.disk 4 rfl) CM6.out.dead P (by rw [EN6.out]; exact hP)
        rw [hrd] at cR
        have CR := Lib.hid cR
        have H13 := Lib.hid H13
        clear cR hrd
        go_wp2_with fail
        refine CR.out.mono ?_
        rintro e w14 ⟨gb, cb, rfl, hgb, hO, hD, hk⟩
        have H14 := H13.out.upd 4 rfl hk (t' := diskThing _ { d6 with reads := wrap64 (d6.reads + 1) } F12) hD (From.refl _ _)
        simp only [List.set_cons_succ, List.set_cons_zero] at H14
        have hob : OwnB w14 (.slice (some ⟨gb, 0, none⟩) 256 cb) O := hO
        obtain ⟨d7, hd7⟩ : ∃ d7 : D, d7 = { d6 with reads := wrap64 (d6.reads + 1) } := ⟨_, rfl⟩
        rw [← hd7] at H14
        have en7 : d7.n = m := by rw [hd7]; exact EN6.out
        have hq7 : d7.q = [(P, O)] := by rw [hd7]; exact HQ6.out
        have cm7 : Calm d7 := by rw [hd7]; exact ⟨CM6.out.dead, CM6.out.armed⟩
        have hi7 := (H14.disk 4 rfl).ok.2.2.1
        rw [en7] at hi7
        have I7 := Lib.hid hi7
        have EN7 := Lib.hid en7
        have HQ7 := Lib.hid hq7
        have CM7 := Lib.hid cm7
        have H14 := Lib.hid H14
        have cS := same_true (ownB_bytes hob) (ownB_bytes (H14.out.bytes 0 rfl)) rfl
        have CS := Lib.hid cS
        clear hO hD hk H13 hob hd7 en7 hq7 cm7 cS hi7
        go_wp2_with fail
        refine CS.out.mono ?_
        rintro e w15 ⟨rfl, hk⟩
        have H15 := H14.out.keep hk
        clear hk H14 CS
        go_wp2_with fail
        refine (sync_thing (H15.disk 4 rfl) CM7.out).mono ?_
        rintro e w16 ⟨rfl, hk, F16, hD, hF⟩
        have H16 := H15.upd 4 rfl hk (t' := diskThing _ _ F16) hD hF
        simp only [List.set_cons_succ, List.set_cons_zero] at H16
        clear hk hD hF H15
        obtain ⟨d8, hd8⟩ : ∃ d8, d8 = d7.sync := ⟨_, rfl⟩
        rw [← hd8] at H16
        have ok7 := I7.out
        have ei8 : d8.img = setPage d7.img P O := by rw [hd8]; show synced d7.img d7.q = _; rw [HQ7.out]; rfl
        have hI8 : d8.img.length = 256 * m := by
          have h0 := (H16.disk 4 rfl).ok.2.2.1
          rw [h0, hd8]
          show 256 * (d7.act).n = _
          rw [D.act_n, EN7.out]
        have hpg : pg d8.img P = O := by rw [ei8]; exact pg_setPage_same HOL.out (by rw [ok7]; omega)
        have I8 := Lib.hid hI8
        have HPG := Lib.hid hpg
        have H16 := Lib.hid H16
        clear hd8 ok7 ei8 hI8 hpg
        go_wp2_with fail
        refine (image_len (H16.out.disk 4 rfl) I8.out).mono ?_
        rintro e w17 ⟨gn, cn, rfl, hgn, hO, hk⟩
        obtain ⟨_, _, _, hcn, hcm, _⟩ := hO.row
        unfold maxLen at hcm
        have hpt := hO.part P (by rw [I8.out]; omega) (cn - P * 256) (by omega) (by unfold maxLen; omega)
        have hpt2 : BytesAt w17 (.slice (some ⟨gn, 256 * P, none⟩) 256 (cn - 256 * P)) O := by
          have h := hpt
          rw [show (d8.img.drop (P * 256)).take 256 = O from HPG.out, Nat.mul_comm P 256] at h
          exact h
        have H17 := H16.out.add hk (t := bytesThing _ _) hO (fun k hk' => .inr (by simp [bytesThing, Value.ownBlock] at hk'; omega))
        have HPT := Lib.hid hpt2
        have H17 := Lib.hid H17
        have u0 : (0 : Int) ≤ 256 * (P : Int) := by omega
        have u1 : 256 * (P : Int) ≤ 256 * (P : Int) + 256 := by omega
        have u2 : 256 * (P : Int) + 256 ≤ (cn : Int) := by omega
        have x2 : ((256 * (m : Int)) == 256 * (m : Int)) = true := by simp
        clear hO hk hpt hpt2
        go_wp2_with fail
        refine (same_true HPT.out (ownB_bytes (H17.out.bytes 1 rfl)) rfl).mono ?_
        rintro e w18 ⟨rfl, hk⟩
        have H18 := Lib.hid (H17.out.keep hk)
        clear hk
        go_wp2_with fail
        go_ret
        exact ⟨rfl, H18.out.below⟩
    · have hbv2 : bit < 0 ∨ 2048 ≤ bit := by omega
      refine (flip_arg_thing (H3.out.disk 1 rfl) hpv0 (by rw [EN2.out]; exact hpv1) hbv2).mono ?_
      rintro e w' ⟨rfl, rfl⟩
      go_wp2_with fail
      refine (image_len (H3.out.disk 1 rfl) I2.out).mono ?_
      rintro e w5 ⟨g5, c5, rfl, hg5, hO, hk⟩
      have H5 := Lib.hid (H3.out.add hk (t := bytesThing _ _) hO (fun k hk' => .inr (by simp [bytesThing, Value.ownBlock] at hk'; omega)))
      clear hO hk
      have x0 : ((256 * (m : Int)) != 256 * (m : Int)) = false := by simp
      rcases hbv2 with hb2 | hb2
      · go_wp2_with fail
        refine (same_true (ownB_bytes (H5.out.bytes 0 rfl)) (ownB_bytes (H5.out.bytes 1 rfl)) rfl).mono ?_
        rintro e w8 ⟨rfl, hk⟩
        have H8 := Lib.hid (H5.out.keep hk)
        clear hk
        go_wp2_with fail
        go_ret
        exact ⟨rfl, H8.out.below⟩
      · have hb3 : ¬ bit < 0 := by omega
        go_wp2_with fail
        refine (same_true (ownB_bytes (H5.out.bytes 0 rfl)) (ownB_bytes (H5.out.bytes 1 rfl)) rfl).mono ?_
        rintro e w8 ⟨rfl, hk⟩
        have H8 := Lib.hid (H5.out.keep hk)
        clear hk
        go_wp2_with fail
        go_ret
        exact ⟨rfl, H8.out.below⟩

  · have hpv2 : page < 0 ∨ (m : Int) ≤ page := by omega
    refine (flip_page_thing (H3.out.disk 1 rfl) (by rw [EN2.out]; exact hpv2)).mono ?_
    rintro e w' ⟨rfl, rfl⟩
    go_wp2_with fail
    refine (image_len (H3.out.disk 1 rfl) I2.out).mono ?_
    rintro e w5 ⟨g5, c5, rfl, hg5, hO, hk⟩
    have H5 := Lib.hid (H3.out.add hk (t := bytesThing _ _) hO (fun k hk' => .inr (by simp [bytesThing, Value.ownBlock] at hk'; omega)))
    clear hO hk
    have x0 : ((256 * (m : Int)) != 256 * (m : Int)) = false := by simp
    rcases hpv2 with hb2 | hb2
    · go_wp2_with fail
      refine (same_true (ownB_bytes (H5.out.bytes 0 rfl)) (ownB_bytes (H5.out.bytes 1 rfl)) rfl).mono ?_
      rintro e w8 ⟨rfl, hk⟩
      have H8 := Lib.hid (H5.out.keep hk)
      clear hk
      go_wp2_with fail
      go_ret
      exact ⟨rfl, H8.out.below⟩
    · have hb3 : ¬ page < 0 := by omega
      go_wp2_with fail
      refine (same_true (ownB_bytes (H5.out.bytes 0 rfl)) (ownB_bytes (H5.out.bytes 1 rfl)) rfl).mono ?_
      rintro e w8 ⟨rfl, hk⟩
      have H8 := Lib.hid (H5.out.keep hk)
      clear hk
      go_wp2_with fail
      go_ret
      exact ⟨rfl, H8.out.below⟩


end Go.Proofs.Ytbjffjplpnnhoaa
