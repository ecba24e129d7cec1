/-
  The walk of ledgerlaw4.DiskWhole.
-/
import Derived.Test.YtbjffjplpnnhoaaDlB
import Derived.Test.YtbjffjplpnnhoaaDpA
namespace Go.Proofs.Ytbjffjplpnnhoaa
set_option linter.unusedVariables false
set_option linter.unusedSimpArgs false
open Go.RowKit

/-- A disk that has nothing open, power, and is not armed. -/
structure Calm (d : D) : Prop where
  dead : d.dead = false
  armed : d.armed = 0
theorem Calm.new (n : Nat) : Calm (D.new n) := ⟨rfl, rfl⟩
theorem Calm.lays {d : D} (h : Calm d) (ws : List Wr) : Calm (d.lays ws) := ⟨(D.lays_off h.armed ws).2.1.trans h.dead, (D.lays_off h.armed ws).1⟩
def D.sync (d : D) : D := { d.act with img := synced d.img d.q, q := [], syncs := wrap64 (d.syncs + 1) }
def D.crash (d : D) (fates : List UInt8) : D := { d with img := crashed d.img d.q fates, q := [], armed := 0, dead := false, epoch := wrap64 (d.epoch + 1) }
theorem Calm.sync {d : D} (h : Calm d) : Calm d.sync := by
  unfold D.sync
  rw [D.act_off h.armed]
  exact ⟨h.dead, h.armed⟩

/-! The disk's calls, of things. -/
theorem sync_thing {w : World} {b : Nat} {d : D} {F : List Nat} (h : DiskAt w b d F) (hc : Calm d) :
    Calls Try.prog 13 #[.pointer (some ⟨b, 0, none⟩)] w fun e w' => e = .returned (.int .i64 0) ∧ Keeps F w w' ∧ ∃ F', DiskAt w' b d.sync F' ∧ From w F F' := by
  obtain ⟨bp, qv, bm, hI, rfl⟩ := h
  refine (dSync_ok hI hc.dead (by rw [hc.armed]; omega)).mono ?_
  rintro e w' ⟨rfl, hI', hk⟩
  exact ⟨rfl, hk.mono (by simp), _, ⟨bp, _, bm, hI', rfl⟩, fun k hk => .inl (by simp [Value.ownBlock] at hk; rcases hk with h | h | h <;> simp [h])⟩
theorem crash_thing {w : World} {b : Nat} {d : D} {F : List Nat} {fv : Value} {fates : List UInt8} (h : DiskAt w b d F) (hf : BytesAt w fv fates) (hfd : ∀ k, fv.elemBlock = some k → k ∉ F) {n : Nat} (hn : d.q.length = n) :
    Calls Try.prog 15 #[.pointer (some ⟨b, 0, none⟩), fv] w fun e w' => e = .returned (.int .i64 n) ∧ Keeps F w w' ∧ ∃ F', DiskAt w' b (d.crash fates) F' ∧ From w F F' := by
  subst hn
  obtain ⟨bp, qv, bm, hI, rfl⟩ := h
  refine (dCrash_ok hI hf (fun k hk => by have := hfd k hk; simp at this; exact ⟨this.1, this.2.1, this.2.2.1⟩)).mono ?_
  rintro e w' ⟨rfl, hI', hk⟩
  exact ⟨rfl, hk.mono (by simp), _, ⟨bp, _, bm, hI', rfl⟩, fun k hk => .inl (by simp [Value.ownBlock] at hk; rcases hk with h | h | h <;> simp [h])⟩
theorem image_thing {w : World} {b : Nat} {d : D} {F : List Nat} (h : DiskAt w b d F) :
    Calls Try.prog 14 #[.pointer (some ⟨b, 0, none⟩)] w fun e w' => ∃ g cap, e = .returned (.slice (some ⟨g, 0, none⟩) d.img.length cap) ∧ w.heap.size ≤ g ∧ OwnB w' (.slice (some ⟨g, 0, none⟩) d.img.length cap) d.img ∧ Keeps [] w w' := by
  obtain ⟨bp, qv, bm, hI, rfl⟩ := h
  exact dImage_ok hI
theorem pages_thing {w : World} {b : Nat} {d : D} {F : List Nat} (h : DiskAt w b d F) :
    Calls Try.prog 16 #[.pointer (some ⟨b, 0, none⟩)] w fun e w' => e = .returned (.int .i64 d.n) ∧ w = w' := by
  obtain ⟨bp, qv, bm, hI, rfl⟩ := h
  exact dPages_any hI.cells.2.2.2.2.1

theorem image_len {w : World} {b : Nat} {d : D} {F : List Nat} (h : DiskAt w b d F) {n : Nat} (hn : d.img.length = n) :
    Calls Try.prog 14 #[.pointer (some ⟨b, 0, none⟩)] w fun e w' => ∃ g cap, e = .returned (.slice (some ⟨g, 0, none⟩) n cap) ∧ w.heap.size ≤ g ∧ OwnB w' (.slice (some ⟨g, 0, none⟩) n cap) d.img ∧ Keeps [] w w' := by
  subst hn
  exact image_thing h
theorem pages_len {w : World} {b : Nat} {d : D} {F : List Nat} (h : DiskAt w b d F) {n : Nat} (hn : d.n = n) :
    Calls Try.prog 16 #[.pointer (some ⟨b, 0, none⟩)] w fun e w' => e = .returned (.int .i64 n) ∧ w = w' := by
  subst hn
  exact pages_thing h
theorem same_true {w : World} {v1 v2 : Value} {l1 l2 : List UInt8} (h1 : BytesAt w v1 l1) (h2 : BytesAt w v2 l2) (he : l1 = l2) :
    Calls Try.prog 17 #[v1, v2] w fun e w' => e = .returned (.bool true) ∧ Keeps [] w w' := by
  subst he
  refine (lSame_any h1 h2).mono ?_
  rintro e w' ⟨rfl, hk⟩
  exact ⟨by simp, hk⟩

namespace At
variable {w0 w w' : World} {L : List Thing} {t t' : Thing}
theorem disk (h : At w0 w L) (i : Nat) {b : Nat} {d : D} {F : List Nat} (hi : L[i]? = some (diskThing b d F)) : DiskAt w b d F := h.live.get hi
end At

set_option maxRecDepth 100000 in
set_option maxHeartbeats 1600000 in
theorem whole_walk {w : World} (n : Int) (n0 : -9223372036854775808 ≤ n) (n1 : n ≤ 9223372036854775807) {v1 v2 : Value} {ws1 ws2 : List Wr} (h1 : WsAt w w.heap.size v1 ws1) (h2 : WsAt w w.heap.size v2 ws2)
    (ok1 : ∀ o ∈ ws1, o.ok) (ok2 : ∀ o ∈ ws2, o.ok) (l1 : ws1.length ≤ 1048576) (l2 : ws2.length ≤ 1048576) :
    Calls Try.prog 4 #[.int .i64 n, v1, v2] w fun e w' => e = .returned (.bool true) ∧ Below w.heap.size w w' := by
  obtain ⟨a1, c1, rfl, hc1, hm1⟩ := h1.form
  obtain ⟨a2, c2, rfl, hc2, hm2⟩ := h2.form
  unfold maxLen at hm1 hm2
  have H0 := At.start w
  obtain ⟨m, hm⟩ : ∃ m, m = (n % 8).toNat + 3 := ⟨_, rfl⟩
  have cF := fun (w : World) => lFresh_any (w := w) n n0 n1
  rw [← hm] at cF
  have CF := Lib.hid cF
  have HM := Lib.hid hm
  clear cF hm
  go_enter Try.func4, Try.ntmps4
  go_wp2_with fail
  refine (CF.out w).mono ?_
  rintro e wa ⟨rfl, hka, Fa, hDa, hFa⟩
  have Ha := H0.add (t := diskThing _ _ Fa) hka hDa hFa
  go_wp2_with fail
  refine (CF.out wa).mono ?_
  rintro e wb ⟨rfl, hkb, Fb, hDb, hFb⟩
  have Hb := Ha.add (t := diskThing _ _ Fb) hkb hDb hFb
  go_wp2_with fail
  refine (CF.out wb).mono ?_
  rintro e wc ⟨rfl, hkc, Fc, hDc, hFc⟩
  have Hc := Hb.add (t := diskThing _ _ Fc) hkc hDc hFc
  clear hka hDa hFa hkb hDb hFb hkc hDc hFc Ha Hb H0
  obtain ⟨d0, hd0⟩ : ∃ d0, d0 = D.new m := ⟨_, rfl⟩
  rw [← hd0] at Hc
  have cm0 : Calm d0 := by rw [hd0]; exact Calm.new m
  have e0 : d0.q.length = 0 := by rw [hd0]; rfl
  clear hd0
  -- the first writes, on each
  have hw1 := fun (w' : World) (hb : Below w.heap.size w w') => h1.below hb
  have hw2 := fun (w' : World) (hb : Below w.heap.size w w') => h2.below hb
  have HW1 := Lib.hid hw1
  have HW2 := Lib.hid hw2
  have HO1 := Lib.hid ok1
  have HO2 := Lib.hid ok2
  clear hw1 hw2 h1 h2 ok1 ok2
  go_wp2_with fail
  refine (lLays_any (Hc.disk 2 rfl) cm0.dead cm0.armed (HW1.out _ Hc.below) (Hc.ge 2 rfl) HO1.out (by omega)).mono ?_
  rintro e w1 ⟨rfl, hk, F1, hD, hF⟩
  have H1 := Hc.upd 2 rfl hk (t' := diskThing _ _ F1) hD hF
  simp only [List.set_cons_succ, List.set_cons_zero] at H1
  clear hk hD hF Hc
  go_wp2_with fail
  refine (lLays_any (H1.disk 1 rfl) cm0.dead cm0.armed (HW1.out _ H1.below) (H1.ge 1 rfl) HO1.out (by omega)).mono ?_
  rintro e w2 ⟨rfl, hk, F2, hD, hF⟩
  have H2 := H1.upd 1 rfl hk (t' := diskThing _ _ F2) hD hF
  simp only [List.set_cons_succ, List.set_cons_zero] at H2
  clear hk hD hF H1
  go_wp2_with fail
  refine (lLays_any (H2.disk 0 rfl) cm0.dead cm0.armed (HW1.out _ H2.below) (H2.ge 0 rfl) HO1.out (by omega)).mono ?_
  rintro e w3 ⟨rfl, hk, F3, hD, hF⟩
  have H3 := H2.upd 0 rfl hk (t' := diskThing _ _ F3) hD hF
  simp only [List.set_cons_succ, List.set_cons_zero] at H3
  clear hk hD hF H2
  have cm1 := cm0.lays ws1
  -- the syncs
  go_wp2_with fail
  refine (sync_thing (H3.disk 2 rfl) cm1).mono ?_
  rintro e w4 ⟨rfl, hk, F4, hD, hF⟩
  have H4 := H3.upd 2 rfl hk (t' := diskThing _ _ F4) hD hF
  simp only [List.set_cons_succ, List.set_cons_zero] at H4
  clear hk hD hF H3
  go_wp2_with fail
  refine (sync_thing (H4.disk 1 rfl) cm1).mono ?_
  rintro e w5 ⟨rfl, hk, F5, hD, hF⟩
  have H5 := H4.upd 1 rfl hk (t' := diskThing _ _ F5) hD hF
  simp only [List.set_cons_succ, List.set_cons_zero] at H5
  clear hk hD hF H4
  go_wp2_with fail
  refine (sync_thing (H5.disk 0 rfl) cm1).mono ?_
  rintro e w6 ⟨rfl, hk, F6, hD, hF⟩
  have H6 := H5.upd 0 rfl hk (t' := diskThing _ _ F6) hD hF
  simp only [List.set_cons_succ, List.set_cons_zero] at H6
  clear hk hD hF H5
  have cm2 := cm1.sync
  obtain ⟨d2, hd2⟩ : ∃ d2, d2 = (d0.lays ws1).sync := ⟨_, rfl⟩
  rw [← hd2] at H6 cm2
  have e2 : d2.q.length = 0 := by rw [hd2]; rfl
  have ok2 := (H6.disk 0 rfl).ok
  clear hd2 cm1 e0 cm0
  -- the image
  go_wp2_with fail
  refine (image_len (H6.disk 0 rfl) ok2.2.2.1).mono ?_
  rintro e w7 ⟨gi, ci, rfl, hgi, hO, hk⟩
  have H7 := H6.add hk (t := bytesThing _ _) hO (fun k hk' => .inr (by simp [bytesThing, Value.ownBlock] at hk'; omega))
  clear hO hk H6
  -- the later writes, on each
  go_wp2_with fail
  refine (lLays_any (H7.disk 3 rfl) cm2.dead cm2.armed (HW2.out _ H7.below) (H7.ge 3 rfl) HO2.out (by omega)).mono ?_
  rintro e w8 ⟨rfl, hk, F8, hD, hF⟩
  have H8 := H7.upd 3 rfl hk (t' := diskThing _ _ F8) hD hF
  simp only [List.set_cons_succ, List.set_cons_zero] at H8
  clear hk hD hF H7
  go_wp2_with fail
  refine (lLays_any (H8.disk 2 rfl) cm2.dead cm2.armed (HW2.out _ H8.below) (H8.ge 2 rfl) HO2.out (by omega)).mono ?_
  rintro e w9 ⟨rfl, hk, F9, hD, hF⟩
  have H9 := H8.upd 2 rfl hk (t' := diskThing _ _ F9) hD hF
  simp only [List.set_cons_succ, List.set_cons_zero] at H9
  clear hk hD hF H8
  go_wp2_with fail
  refine (lLays_any (H9.disk 1 rfl) cm2.dead cm2.armed (HW2.out _ H9.below) (H9.ge 1 rfl) HO2.out (by omega)).mono ?_
  rintro e w10 ⟨rfl, hk, F10, hD, hF⟩
  have H10 := H9.upd 1 rfl hk (t' := diskThing _ _ F10) hD hF
  simp only [List.set_cons_succ, List.set_cons_zero] at H10
  clear hk hD hF H9
  have cm3 := cm2.lays ws2
  obtain ⟨q1, q2, q3, q4, q5, q6, q7⟩ := D.lays_off cm2.armed ws2
  obtain ⟨d3, hd3⟩ : ∃ d3, d3 = d2.lays ws2 := ⟨_, rfl⟩
  rw [← hd3] at H10 cm3 q1 q2 q3 q4 q5 q6 q7
  have e3 : d3.q.length = ws2.length := by rw [q6]; simp [List.eq_nil_of_length_eq_zero e2]
  have Q4 := Lib.hid q4
  have N3 := Lib.hid q3
  have qA : d3.sync.img = (d3.crash (List.replicate ws2.length 15)).img := by
    have hok := (H10.disk 3 rfl).ok
    show synced d3.img d3.q = crashed d3.img d3.q (List.replicate ws2.length 15)
    rw [← e3]
    exact (crashed_all d3.q (n := d3.n) hok.2.2.1 hok.2.2.2.1).symm
  have QA := Lib.hid qA
  clear qA
  have E3 := Lib.hid e3
  have E2 := Lib.hid e2
  clear hd3 q1 q2 q3 q4 q5 q6 q7 e3 e2
  go_wp2_with fail
  refine (sync_thing (H10.disk 3 rfl) cm3).mono ?_
  rintro e w11 ⟨rfl, hk, F11, hD, hF⟩
  have H11 := H10.upd 3 rfl hk (t' := diskThing _ _ F11) hD hF
  simp only [List.set_cons_succ, List.set_cons_zero] at H11
  clear hk hD hF H10
  go_wp2_with fail
  obtain ⟨i0, hi0, hz0, hz1, hz2⟩ := info_parts info_u8
  have HI0 := Lib.hid hi0
  have HZ0 := Lib.hid hz0
  have HZ1 := Lib.hid hz1
  have HZ2 := Lib.hid hz2
  have HH := Lib.hid H11
  have M3 := Lib.hid cm3
  have O2 := Lib.hid ok2
  clear hi0 hz0 hz1 hz2 H11 cm3 cm2 ok2
  go_loopw [11, 12] (fun v i wr => ∃ k : Nat, k ≤ ws2.length ∧ i = .int .i64 k ∧ wr.ownsRow w11.heap.size 5 1 v k (List.replicate k (.int .u8 15)) ∧ Keeps [] w11 wr) (fun _ i _ => ws2.length - (intOf i).toNat)
  case atStart => exact ⟨0, Nat.zero_le _, rfl, World.ownsRow_nil _ _ _ _, Keeps.refl _ _⟩
  case round =>
    obtain ⟨k, hk, rfl, hown, hkr⟩ := hrel
    have hov := hown.lt
    have HOWN := Lib.hid hown
    have hsz := hkr.size
    clear hown
    by_cases hlt : k < ws2.length
    · go_wp2_with (refine wpList_append_lies _ rfl (.tmp 89) (.tmp 90) 29 rfl w11.heap.size 5 i0 (.int .u8 0) 1 1 Try.underlying29 HI0.out HZ0.out HZ1.out HZ2.out rfl (by omega) _ k _ rfl (HOWN.out.alloc _) ⟨wr.heap.size, 0, none⟩ 1 1 [.int .u8 15] rfl rfl (World.news_of_block (cs := #[.int .u8 15]) (t := 5) (fr := (0, 0)) (heap_new_at rfl)) (by simp [Value.oneCell']) (by omega) (by simp only [maxLen]; omega) (by omega) (by simp; omega) _ rfl ?_)
      intro g cap wn h1 h2 h3 h4
      go_wp2_with fail
      go_roundw
      case rel =>
        refine ⟨k + 1, by omega, by go_num, ?_, (hkr.alloc _).grown h2 (fun j hj => .inr (hov j hj).1)⟩
        rw [show List.replicate (k + 1) (Value.int .u8 15) = List.replicate k (.int .u8 15) ++ [.int .u8 15] from List.replicate_succ']
        exact h1
      case measure => simp [intOf]; omega
    · have ek : k = ws2.length := by omega
      subst ek
      have H12 := HH.out.add hkr (t := bytesThing _ (List.replicate ws2.length 15)) (by
        show OwnB _ _ _
        unfold OwnB
        rw [List.length_replicate, List.map_replicate]
        exact ownsRow_base HOWN.out) (fun j hj => .inr (hov j (by simpa [bytesThing] using hj)).1)
      clear hkr hov HOWN hsz
      go_wp2_with fail
      refine (crash_thing (H12.disk 3 rfl) (ownB_bytes (H12.bytes 0 rfl)) (fun j hj => H12.live.apart_of (show 0 ≠ 3 by omega) rfl rfl j (by simp [bytesThing, elemBlock_own hj])) E3.out).mono ?_
      rintro e w12 ⟨rfl, hk, F12, hD, hF⟩
      have H13 := H12.upd 3 rfl hk (t' := diskThing _ _ F12) hD hF
      simp only [List.set_cons_succ, List.set_cons_zero] at H13
      clear hk hD hF H12
      go_wp2_with fail
      refine (crash_thing (fates := []) (H13.disk 2 rfl) (BytesAt_nil _) (by simp [Value.elemBlock]) E3.out).mono ?_
      rintro e w13 ⟨rfl, hk, F13, hD, hF⟩
      have H14 := H13.upd 2 rfl hk (t' := diskThing _ _ F13) hD hF
      simp only [List.set_cons_succ, List.set_cons_zero] at H14
      clear hk hD hF H13
      have hn3 : (d3.crash []).n = d2.n := N3.out
      go_wp2_with fail
      refine (pages_len (H14.disk 2 rfl) hn3).mono ?_
      rintro e w14 ⟨rfl, rfl⟩
      have hI3 : d3.img.length = 256 * d2.n := by rw [Q4.out]; exact O2.out.2.2.1
      have hq3 := (H14.disk 4 rfl).ok
      have eA : d3.sync.img = (d3.crash (List.replicate ws2.length 15)).img := QA.out
      have eC : (d3.crash []).img = d2.img := by
        show crashed d3.img d3.q [] = _
        rw [crashed_nil, Q4.out]
      have EA := Lib.hid eA
      have EC := Lib.hid eC
      have b0 : ((256 * (d2.n : Int)) == 256 * (d2.n : Int)) = true := by simp
      have b1 : d2.n ≤ 4096 := O2.out.2.1
      clear eA eC hI3 hq3 hn3
      go_wp2_with fail
      refine (image_thing (H14.disk 4 rfl)).mono ?_
      rintro e w15 ⟨ga, ca, rfl, hga, hO, hk⟩
      have H15 := H14.add hk (t := bytesThing _ _) hO (fun k hk' => .inr (by simp [bytesThing, Value.ownBlock] at hk'; omega))
      clear hO hk H14
      go_wp2_with fail
      refine (image_thing (H15.disk 4 rfl)).mono ?_
      rintro e w16 ⟨gb, cb, rfl, hgb, hO, hk⟩
      have H16 := H15.add hk (t := bytesThing _ _) hO (fun k hk' => .inr (by simp [bytesThing, Value.ownBlock] at hk'; omega))
      clear hO hk H15
      go_wp2_with fail
      refine (same_true (ownB_bytes (H16.bytes 1 rfl)) (ownB_bytes (H16.bytes 0 rfl)) EA.out).mono ?_
      rintro e w17 ⟨rfl, hk⟩
      have H17 := H16.keep hk
      clear hk H16
      go_wp2_with fail
      refine (image_thing (H17.disk 4 rfl)).mono ?_
      rintro e w18 ⟨gc, cc, rfl, hgc, hO, hk⟩
      have H18 := H17.add hk (t := bytesThing _ _) hO (fun k hk' => .inr (by simp [bytesThing, Value.ownBlock] at hk'; omega))
      clear hO hk H17
      go_wp2_with fail
      refine (same_true (ownB_bytes (H18.bytes 0 rfl)) (ownB_bytes (H18.bytes 4 rfl)) EC.out).mono ?_
      rintro e w19 ⟨rfl, hk⟩
      have H19 := H18.keep hk
      go_wp2_with fail
      go_ret
      exact ⟨rfl, H19.below⟩
end Go.Proofs.Ytbjffjplpnnhoaa
