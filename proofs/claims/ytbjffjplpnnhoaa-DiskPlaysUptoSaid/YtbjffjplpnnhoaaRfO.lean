/-
  ledgerref4: Read, Image; what both disks tell of a page.
-/
import Derived.Test.YtbjffjplpnnhoaaRfN
import Derived.Test.YtbjffjplpnnhoaaFlC
import Derived.Test.YtbjffjplpnnhoaaDcCopies
namespace Go.Proofs.Ytbjffjplpnnhoaa
set_option linter.unusedVariables false
set_option linter.unusedSimpArgs false
open Go.RowKit

theorem rfRead_down {w : World} {b : Nat} {r : R} {F : List Nat} (h : RefAt w b r F) (hd : r.down = true) (page : Int) :
    Calls Try.prog 47 #[.pointer (some ⟨b, 0, none⟩), .int .i64 page] w fun e w' => e = .returned (.tuple #[.slice none 0 0, .int .i64 2]) ∧ w = w' := by
  obtain ⟨bv, lv, dvs, hI, rfl⟩ := h
  obtain ⟨c0, c1, c2, c3, c4, c5⟩ := hI.cells
  rw [hd] at c3
  go_enter Try.func47, Try.ntmps47
  go_wp2_with fail
  go_ret2
  exact ⟨rfl, rfl⟩
theorem rfRead_page {w : World} {b : Nat} {r : R} {F : List Nat} (h : RefAt w b r F) (hd : r.down = false) {n : Nat} (hn : r.base.length = 256 * n) (hm : n ≤ 4096) {page : Int} (hp : page < 0 ∨ (n : Int) ≤ page) :
    Calls Try.prog 47 #[.pointer (some ⟨b, 0, none⟩), .int .i64 page] w fun e w' => e = .returned (.tuple #[.slice none 0 0, .int .i64 41]) ∧ w = w' := by
  have CP := Lib.hid (rfPages_any h hn hm)
  obtain ⟨bv, lv, dvs, hI, rfl⟩ := h
  obtain ⟨c0, c1, c2, c3, c4, c5⟩ := hI.cells
  rw [hd] at c3
  clear hn hI
  by_cases hp0 : page < 0
  · go_enter Try.func47, Try.ntmps47
    go_wp2_with fail
    go_ret2
    exact ⟨rfl, rfl⟩
  · have hp1 : (n : Int) ≤ page := by omega
    clear hp
    go_enter Try.func47, Try.ntmps47
    go_wp2_with (go_at_call 52; refine CP.out.mono ?_; rintro e w' ⟨rfl, rfl⟩)
    go_ret2
    exact ⟨rfl, rfl⟩
set_option maxRecDepth 100000 in
set_option maxHeartbeats 1600000 in
theorem rfRead_ok {w : World} {b : Nat} {r : R} {F : List Nat} (h : RefAt w b r F) (hd : r.down = false) {n : Nat} (hn : r.base.length = 256 * n) (hm : n ≤ 4096) (p : Nat) (hp : p < n) (hq : r.log.length < 4294967296) (hf : ∀ e ∈ r.log, e.fits n) :
    Calls Try.prog 47 #[.pointer (some ⟨b, 0, none⟩), .int .i64 p] w fun e w' => ∃ g c, e = .returned (.tuple #[.slice (some ⟨g, 0, none⟩) 256 c, .int .i64 0]) ∧ w.heap.size ≤ g ∧ OwnB w' (.slice (some ⟨g, 0, none⟩) 256 c) (pgRead r p) ∧ Keeps F w w' ∧ RefAt w' b { r with seen := wrap64 (r.seen + 1) } F := by
  have CP := Lib.hid (rfPages_any h hn hm)
  obtain ⟨bv, lv, dvs, hI, rfl⟩ := h
  obtain ⟨c0, c1, c2, c3, c4, c5⟩ := hI.cells
  rw [hd] at c3
  have f5 := hI.free 5
  obtain ⟨hI2, hk⟩ := hI.setc { r with seen := wrap64 (r.seen + 1) } 5 (.int .i64 (wrap64 (r.seen + 1))) rfl rfl hI.arm0 hI.arm1 rfl
  obtain ⟨w1, hw1⟩ : ∃ w1, w1 = w.setCell ⟨b, 5, none⟩ (.int .i64 (wrap64 (r.seen + 1))) := ⟨_, rfl⟩
  rw [← hw1] at hI2 hk
  have HG := Lib.hid (rfPage_any (w := w1) (b := b) (r := { r with seen := wrap64 (r.seen + 1) }) ⟨bv, lv, dvs, hI2, rfl⟩ hn hm p hp hq hf)
  have HI := Lib.hid hI2
  have HK := Lib.hid (hk.mono (G := rFoot b bv lv dvs) (by simp [rFoot]))
  have hp2 : ¬ (p : Int) < 0 := by omega
  have hp3 : ¬ (n : Int) ≤ (p : Int) := by omega
  have HW1 := Lib.hid hw1
  clear hI hI2 hk hn hf hd hw1
  go_enter Try.func47, Try.ntmps47
  go_upto_region 6 with (go_at_call 52; refine CP.out.mono ?_; rintro e w' ⟨rfl, rfl⟩)
  rw [← HW1.out]
  go_wp2_with (go_at_call 56; refine HG.out.mono ?_; rintro e w2 ⟨gn, cn, g, c, rfl, hgn, hOn, hg, hO, hk2⟩; have HO := Lib.hid hO; have HK2 := Lib.hid hk2; have HGE := Lib.hid hg; clear hO hk2 hg hgn hOn)
  go_ret2
  refine ⟨g, c, rfl, ?_, HO.out, HK.out.trans (G := []) HK2.out (by simp), bv, lv, dvs, HI.out.keep (fun k hk => HK2.out.block k (HI.out.lt k hk) (by simp)), rfl⟩
  have h1 := HGE.out
  have h2 := HK.out.size
  omega
set_option maxRecDepth 100000 in
set_option maxHeartbeats 1600000 in
theorem rfImage_any {w : World} {b : Nat} {r : R} {F : List Nat} (h : RefAt w b r F) {n : Nat} (hn : r.base.length = 256 * n) (hm : n ≤ 4096) (hq : r.log.length < 4294967296) (hf : ∀ e ∈ r.log, e.fits n) :
    Calls Try.prog 42 #[.pointer (some ⟨b, 0, none⟩)] w fun e w' => ∃ v, e = .returned v ∧ OwnB w' v r.play.img ∧ (∀ k, v.ownBlock = some k → w.heap.size ≤ k) ∧ Keeps [] w w' := by
  have CP := Lib.hid (rfPages_any h hn hm)
  have hfit := r.playN_fits hn hf r.log.length
  rw [r.playN_all] at hfit
  have hil := hfit.1
  have HG := Lib.hid (fun (wx : World) (hk : Keeps [] w wx) (p : Nat) (hp : p < n) => rfPage_any (w := wx) (h.keep (fun k hkF => hk.block k (h.lt k hkF) (by simp))) hn hm p hp hq hf)
  have HIL := Lib.hid hil
  obtain ⟨I, hI⟩ : ∃ I, I = r.play.img := ⟨_, rfl⟩
  rw [← hI] at HG HIL ⊢
  clear h hn hf hfit hil hI
  go_enter Try.func42, Try.ntmps42
  go_wp2_with (go_at_call 52; refine CP.out.mono ?_; rintro e w' ⟨rfl, rfl⟩)
  go_loopw [3, 5, 6, 7] (fun v i _ _ wr => ∃ k : Nat, k ≤ n ∧ i = .int .i64 k ∧ wr.ownsRow w.heap.size 5 1 v (256 * k) ((I.take (256 * k)).map B) ∧ Keeps [] w wr) (fun _ i _ _ _ => n - (intOf i).toNat)
  case atStart =>
    exact ⟨0, Nat.zero_le _, rfl, by simpa using World.ownsRow_nil w w.heap.size 5 1, Keeps.refl _ _⟩
  case round =>
    obtain ⟨k, hk, rfl, hown, hkr⟩ := hrel
    have HKR := Lib.hid hkr
    by_cases hlt : k < n
    · have hk0 : (0 : Int) ≤ (k : Int) := Int.natCast_nonneg _
      have hk1 : (k : Int) < (n : Int) := by omega
      have HGK := Lib.hid (HG.out wr hkr k hlt)
      have HOW := Lib.hid hown
      clear hown hkr
      go_upto_region 6 with fail
      obtain ⟨av, cv, rfl⟩ := owns_slice' HOW.out
      go_upto_region 7 with (go_at_call 56; refine HGK.out.mono ?_; rintro e w2 ⟨gn, cn, g, c, rfl, hgn, hOn, hg, hO, hk2⟩; have HO := Lib.hid hOn; have HK2 := Lib.hid hk2; clear hO hk2 hg hgn hOn)
      have hpl : (pg I k).length = 256 := pg_length HIL.out hlt
      have how2 : w2.ownsRow w.heap.size 5 1 (.slice av (256 * k) cv) (256 * k) ((I.take (256 * k)).map B) := ownsRow_keep HOW.out (fun j hj => HK2.out.block j (World.ownsRow.lt HOW.out j hj).2 (by simp))
      have hsz : w.heap.size ≤ w2.heap.size := Nat.le_trans HKR.out.size HK2.out.size
      obtain ⟨v', w3, hr, h1, h2⟩ := run_append_bytes how2 (ownB_bytes (show OwnB w2 (.slice (some ⟨gn, 0, none⟩) 256 cn) (pg I k) from HO.out)) (by omega) hsz 29
      have HAP := Lib.hid (run_builtin_append hr)
      have e1 : (I.take (256 * (k + 1))).map B = (I.take (256 * k)).map B ++ (pg I k).map B := by
        rw [← List.map_append]
        congr 1
        unfold pg
        rw [Nat.mul_comm k 256, ← List.take_add, show 256 * (k + 1) = 256 * k + 256 from by omega]
      have h3 : w3.ownsRow w.heap.size 5 1 v' (256 * (k + 1)) ((I.take (256 * (k + 1))).map B) := by
        rw [e1, show 256 * (k + 1) = 256 * k + (pg I k).length from by omega]
        exact h1
      have H3 := Lib.hid h3
      have HKW : Hid (Keeps [] w w3) := Lib.hid ((HKR.out.trans (G := []) HK2.out (by simp)).grown h2 (fun j hj => .inr (World.ownsRow.lt how2 j hj).1))
      clear hpl how2 hsz hr h1 h2 h3 e1
      go_wp2_with (refine wl_builtin rfl .append #[.tmp 21, .tmp 22] #[29, 29] rfl ?_; simp only [List.map_toArray, List.map_cons, List.map_nil]; refine ⟨_, _, HAP.out, ?_⟩; try simp only [Act.put, List.setIfInBounds_toArray, List.set_cons_zero, List.set_cons_succ, List.getElem_toArray, List.getElem_cons_zero, List.getElem_cons_succ])
      go_roundw
      case rel => exact ⟨k + 1, by omega, by go_num, H3.out, HKW.out⟩
      case measure => simp [intOf]; omega
    · have e : k = n := by omega
      subst e
      have he : I.take (256 * k) = I := List.take_of_length_le (by rw [HIL.out]; omega)
      rw [he] at hown
      have HOW := Lib.hid hown
      clear hown hkr he
      go_wp2_with fail
      go_ret
      exact ⟨_, rfl, by have := ownsRow_base HOW.out; rwa [← HIL.out] at this, fun j hj => (World.ownsRow.lt HOW.out j hj).1, HKR.out⟩
end Go.Proofs.Ytbjffjplpnnhoaa

/-
  The plain law of the two disks: both go along with one another, act by act; what both tell.
-/
namespace Go.Proofs.Ytbjffjplpnnhoaa
set_option linter.unusedVariables false
set_option linter.unusedSimpArgs false
open Go.RowKit

theorem newest_mine (p : Nat) (q : List (Nat × List UInt8)) : (newest q p).map (fun i => (q.getD i.toNat (0, [])).2) = (mineOf p q 0).getLast?.map Prod.snd := by
  suffices hs : ∀ r : List (Nat × List UInt8), (newest r.reverse p).map (fun i => (r.reverse.getD i.toNat (0, [])).2) = (mineOf p r.reverse 0).getLast?.map Prod.snd by
    have := hs q.reverse
    simpa using this
  intro r
  induction r with
  | nil => simp [newest, mineOf]
  | cons x r ih =>
    obtain ⟨x1, x2⟩ := x
    simp only [List.reverse_cons]
    rw [newest_snoc, mineOf_snoc]
    by_cases e : p = x1
    · subst e
      simp
    · have e2 : ¬ (p : Int) = (x1 : Int) := by omega
      rw [if_neg (Ne.symm e)]
      simp only [if_neg e2]
      rw [← ih]
      cases hn : newest r.reverse p with
      | none => rfl
      | some i =>
        obtain ⟨h1, h2, _⟩ := newest_some hn
        simp only [Option.map_some]
        rw [List.getD_eq_getElem?_getD, List.getElem?_append_left (by omega), ← List.getD_eq_getElem?_getD]
theorem Alike.read {d : D} {r : R} (h : Alike d r) (p : Nat) : d.read p = pgRead r p := by
  have hn := newest_mine p d.q
  unfold D.read pgRead
  rw [← h.q, ← h.img, ← hn]
  cases newest d.q p <;> rfl

/-- Both disks, and the counts that the one keeps while the other counts its log. -/
structure Like (d : D) (r : R) : Prop where
  al : Alike d r
  wr : d.writes = cntK 1 r.log
  sy : d.syncs = cntK 2 r.log
theorem cntK_snoc (k : Nat) (l : List Ev) (e : Ev) : cntK k (l ++ [e]) = cntK k l + if e.kind = k then 1 else 0 := by
  unfold cntK
  rw [List.filter_append, List.length_append]
  by_cases h : e.kind = k <;> simp [h]
theorem R.act_log (r : R) : r.act.log = r.log := by unfold R.act; split <;> rfl

def R.push (r : R) (e : Ev) : R := { r with log := r.log ++ [e] }
theorem wrap64_small (x : Int) (h1 : -9223372036854775808 ≤ x) (h2 : x ≤ 9223372036854775807) : wrap64 x = x := by unfold wrap64; omega
def D.wr (d : D) (page : Int) (data : List UInt8) : Int × D :=
  if d.dead then (2, d) else if page < 0 ∨ (d.n : Int) ≤ page then (41, d) else if data.length ≠ 256 then (42, d) else (if d.armed = 1 then 2 else 0, d.write page.toNat data)
def R.wr (r : R) (n : Nat) (page : Int) (data : List UInt8) : Int × R :=
  if r.down then (2, r) else if page < 0 ∨ (n : Int) ≤ page then (41, r) else if data.length ≠ 256 then (42, r) else (if r.armed = 1 then 2 else 0, R.act (r.push ⟨1, page.toNat, 0, data, 0⟩))
def D.sy (d : D) : Int × D := if d.dead then (2, d) else if d.armed = 1 then (2, d.act) else (0, d.sync)
def R.sy (r : R) : Int × R := if r.down then (2, r) else if r.armed = 1 then (2, r.act) else (0, r.act.push ⟨2, 0, 0, [], 0⟩)
def D.ar (d : D) (n : Int) : D := if d.dead then d else { d with armed := max n 0 }
def R.arm (r : R) (x : Int) : R := { r with armed := x }
def R.ar (r : R) (n : Int) : R := if r.down then r else r.arm (max n 0)
def D.fl (d : D) (page bit : Int) (pat : Nat) : Int × D :=
  if page < 0 ∨ (d.n : Int) ≤ page then (41, d) else if bit < 0 ∨ 2048 ≤ bit then (1, d) else (0, { d with img := flipK d.img (2048 * page.toNat + bit.toNat) pat (min 32 (2048 - bit.toNat)) })
def R.fl (r : R) (n : Nat) (page bit : Int) (pat : Nat) : Int × R :=
  if page < 0 ∨ (n : Int) ≤ page then (41, r) else if bit < 0 ∨ 2048 ≤ bit then (1, r) else (0, r.push ⟨4, page.toNat, bit.toNat, [], pat⟩)
def R.cr (r : R) (F : List UInt8) : R := { r with log := r.log ++ [⟨3, 0, 0, F, 0⟩], down := false, armed := 0, ages := wrap64 (r.ages + 1) }

section
variable {d : D} {r : R}
theorem Like.small (h : Like d r) (hq : r.log.length < 4294967296) : wrap64 (d.writes + 1) = cntK 1 r.log + 1 ∧ wrap64 (d.syncs + 1) = cntK 2 r.log + 1 := by
  have h1 := cntK_le 1 r.log
  have h2 := cntK_le 2 r.log
  rw [h.wr, h.sy]
  exact ⟨wrap64_small _ (by omega) (by omega), wrap64_small _ (by omega) (by omega)⟩
theorem Like.wrote (h : Like d r) (hq : r.log.length < 4294967296) (page : Int) (data : List UInt8) : (d.wr page data).1 = (r.wr d.n page data).1 ∧ Like (d.wr page data).2 (r.wr d.n page data).2 ∧ (r.wr d.n page data).2.log.length ≤ r.log.length + 1 ∧ (d.wr page data).2.n = d.n := by
  unfold D.wr R.wr
  rw [← h.al.dead, ← h.al.armed]
  cases hd : d.dead
  · simp only [Bool.false_eq_true, if_false]
    split
    · exact ⟨rfl, h, by simp, rfl⟩
    · split
      · exact ⟨rfl, h, by simp, rfl⟩
      · rename_i h1 h2
        have hP : page.toNat < d.n := by omega
        have hL : data.length = 256 := by omega
        refine ⟨rfl, ⟨h.al.write hd hP hL, ?_, ?_⟩, ?_, ?_⟩
        · show _ = ((cntK 1 (R.act _).log : Nat) : Int)
          rw [R.act_log]
          show _ = ((cntK 1 (r.log ++ _) : Nat) : Int)
          rw [cntK_snoc]
          show (D.act _).writes = _
          rw [D.act_writes]
          simp only
          rw [(h.small hq).1]
          simp
        · show _ = ((cntK 2 (R.act _).log : Nat) : Int)
          rw [R.act_log]
          show _ = ((cntK 2 (r.log ++ _) : Nat) : Int)
          rw [cntK_snoc]
          show (D.act _).syncs = _
          rw [D.act_syncs]
          simpa using h.sy
        · show (R.act _).log.length ≤ _
          rw [R.act_log]; simp [R.push]
        · show (D.act _).n = _
          rw [D.act_n]
  · exact ⟨rfl, h, by simp, rfl⟩
theorem Like.acted (h : Like d r) (hd : d.dead = false) : Like d.act r.act := ⟨h.al.act hd, by rw [R.act_log, D.act_writes]; exact h.wr, by rw [R.act_log, D.act_syncs]; exact h.sy⟩
theorem Like.synced (h : Like d r) (hq : r.log.length < 4294967296) : d.sy.1 = r.sy.1 ∧ Like d.sy.2 r.sy.2 ∧ r.sy.2.log.length ≤ r.log.length + 1 ∧ d.sy.2.n = d.n := by
  unfold D.sy R.sy
  rw [← h.al.dead, ← h.al.armed]
  cases hd : d.dead
  · simp only [Bool.false_eq_true, if_false]
    split
    · exact ⟨rfl, h.acted hd, by simp only [R.act_log]; omega, D.act_n d⟩
    · refine ⟨rfl, ⟨h.al.sync hd, ?_, ?_⟩, by simp [R.act_log, R.push], ?_⟩
      · show _ = ((cntK 1 (r.act.log ++ _) : Nat) : Int)
        rw [R.act_log, cntK_snoc]
        show d.act.writes = _
        rw [D.act_writes]
        simpa using h.wr
      · show _ = ((cntK 2 (r.act.log ++ _) : Nat) : Int)
        rw [R.act_log, cntK_snoc]
        show wrap64 (d.syncs + 1) = _
        rw [(h.small hq).2]
        simp
      · exact D.act_n d
  · exact ⟨rfl, h, by simp, rfl⟩
theorem Like.armed (h : Like d r) (n : Int) : Like (d.ar n) (r.ar n) ∧ (r.ar n).log = r.log ∧ (d.ar n).n = d.n := by
  unfold D.ar R.ar
  rw [← h.al.dead]
  cases hd : d.dead
  · simp only [Bool.false_eq_true, if_false]
    exact ⟨⟨⟨h.al.img, h.al.q, h.al.n, rfl, hd ▸ h.al.dead, h.al.epoch, h.al.reads, h.al.evs⟩, h.wr, h.sy⟩, rfl, by trivial⟩
  · exact ⟨h, rfl, rfl⟩
theorem Like.flipped (h : Like d r) (page bit : Int) {pat : Nat} (hp : pat < 4294967296) : (d.fl page bit pat).1 = (r.fl d.n page bit pat).1 ∧ Like (d.fl page bit pat).2 (r.fl d.n page bit pat).2 ∧ (r.fl d.n page bit pat).2.log.length ≤ r.log.length + 1 ∧ (d.fl page bit pat).2.n = d.n := by
  unfold D.fl R.fl
  split
  · exact ⟨rfl, h, by simp, rfl⟩
  · split
    · exact ⟨rfl, h, by simp, rfl⟩
    · have hP : page.toNat < d.n := by omega
      have hB : bit.toNat < 2048 := by omega
      refine ⟨rfl, ⟨h.al.flip hP hB hp, ?_, ?_⟩, by simp [R.push], rfl⟩
      · show _ = ((cntK 1 (r.log ++ _) : Nat) : Int)
        rw [cntK_snoc]
        simpa using h.wr
      · show _ = ((cntK 2 (r.log ++ _) : Nat) : Int)
        rw [cntK_snoc]
        simpa using h.sy
theorem Like.crashed (h : Like d r) {F : List UInt8} (hF : F.length ≤ 16777216) : Like (d.crash F) (r.cr F) ∧ (r.cr F).log.length ≤ r.log.length + 1 ∧ (d.crash F).n = d.n := by
  refine ⟨⟨h.al.crash hF, ?_, ?_⟩, by simp [R.cr], rfl⟩
  · show d.writes = cntK 1 (r.log ++ [_])
    rw [cntK_snoc]
    simpa using h.wr
  · show d.syncs = cntK 2 (r.log ++ [_])
    rw [cntK_snoc]
    simpa using h.sy
theorem Like.claimed (h : Like d r) : wrap64 (d.epoch + 1) = wrap64 (r.ages + 1) ∧ Like { d with epoch := wrap64 (d.epoch + 1) } { r with ages := wrap64 (r.ages + 1) } := by
  have e := h.al.epoch
  exact ⟨by rw [e], ⟨h.al.img, h.al.q, h.al.n, h.al.armed, h.al.dead, by simp only; rw [e], h.al.reads, h.al.evs⟩, h.wr, h.sy⟩
theorem Like.looked (h : Like d r) : Like { d with reads := wrap64 (d.reads + 1) } { r with seen := wrap64 (r.seen + 1) } := by
  have e := h.al.reads
  exact ⟨⟨h.al.img, h.al.q, h.al.n, h.al.armed, h.al.dead, h.al.epoch, by simp only; rw [e], h.al.evs⟩, h.wr, h.sy⟩
theorem Like.new (n : Nat) (img : List UInt8) (hl : img.length = 256 * n) : Like { D.new n with img } (R.new img) :=
  ⟨⟨rfl, rfl, hl, rfl, rfl, rfl, rfl, by simp [R.new]⟩, rfl, rfl⟩
end
end Go.Proofs.Ytbjffjplpnnhoaa

/-
  The calls of both disks for whatever argument: the one contract of each.
-/
namespace Go.Proofs.Ytbjffjplpnnhoaa
set_option linter.unusedVariables false
set_option linter.unusedSimpArgs false
open Go.RowKit

section
variable {w : World} {b : Nat} {d : D} {r : R} {F : List Nat}
theorem dWr_any (h : DiskAt w b d F) (page : Int) {v : Value} {data : List UInt8} (hv : BytesAt w v data) (hq : d.q.length < 4294967296) {c : Int} {d' : D} (hd' : d.wr page data = (c, d')) :
    Calls Try.prog 24 #[.pointer (some ⟨b, 0, none⟩), .int .i64 page, v] w fun e w' => e = .returned (.int .i64 c) ∧ Keeps F w w' ∧ ∃ F', DiskAt w' b d' F' ∧ From w F F' := by
  obtain ⟨bp, qv, bm, hI, rfl⟩ := h
  obtain ⟨c0, c1, c2, c3, c4, c5, c6, c7, c8, c9⟩ := hI.cells
  unfold D.wr at hd'
  cases hdd : d.dead
  · rw [hdd] at hd' c8
    simp only [Bool.false_eq_true, if_false] at hd'
    split at hd'
    · rename_i hp
      injection hd' with e1 e2
      subst e1 e2
      refine (dWrite_page c4 c8 hp).mono ?_
      rintro e w' ⟨rfl, rfl⟩
      exact ⟨rfl, Keeps.refl _ _, _, ⟨bp, qv, bm, hI, rfl⟩, From.refl _ _⟩
    · rename_i hp
      split at hd'
      · rename_i hl
        injection hd' with e1 e2
        subst e1 e2
        obtain ⟨a, cp, rfl, hc, _⟩ := hv.form
        refine (dWrite_size c4 c8 (by omega) (by omega) hl).mono ?_
        rintro e w' ⟨rfl, rfl⟩
        exact ⟨rfl, Keeps.refl _ _, _, ⟨bp, qv, bm, hI, rfl⟩, From.refl _ _⟩
      · rename_i hl
        injection hd' with e1 e2
        subst e1 e2
        have hl2 : data.length = 256 := by omega
        obtain ⟨a, cp, rfl, hc, _⟩ := hv.form
        obtain ⟨g, o, rfl, hg, hr⟩ := hv.at (by omega)
        obtain ⟨p, rfl⟩ : ∃ p : Nat, page = p := ⟨page.toNat, by omega⟩
        rw [hl2] at hc ⊢
        refine (dWrite_ok p hI hdd (by omega) hl2 hg hr hc hq).mono ?_
        rintro e w' ⟨rfl, qv', hI', hk, hqv⟩
        refine ⟨rfl, hk, _, ⟨bp, qv', bm, by simpa using hI', rfl⟩, fun k hk' => ?_⟩
        simp only [List.mem_cons, Option.mem_toList] at hk' ⊢
        rcases hk' with hk' | hk' | hk' | hk'
        · exact .inl (.inl hk')
        · exact .inl (.inr (.inl hk'))
        · exact .inl (.inr (.inr (.inl hk')))
        · rcases hqv with e | ⟨g', e, hg'⟩
          · exact .inl (.inr (.inr (.inr (e ▸ hk'))))
          · rw [e] at hk'
            injection hk' with hk'
            subst hk'
            exact .inr hg'
  · rw [hdd] at hd' c8
    injection hd' with e1 e2
    subst e1 e2
    refine (dWrite_down c8).mono ?_
    rintro e w' ⟨rfl, rfl⟩
    exact ⟨rfl, Keeps.refl _ _, _, ⟨bp, qv, bm, hI, rfl⟩, From.refl _ _⟩
theorem rfWr_any (h : RefAt w b r F) {n : Nat} (hn : r.base.length = 256 * n) (hm : n ≤ 4096) (page : Int) {v : Value} {data : List UInt8} (hv : BytesAt w v data) (hq : r.log.length < 4294967296) {c : Int} {r' : R} (hr' : r.wr n page data = (c, r')) :
    Calls Try.prog 60 #[.pointer (some ⟨b, 0, none⟩), .int .i64 page, v] w fun e w' => e = .returned (.int .i64 c) ∧ Keeps F w w' ∧ ∃ F', RefAt w' b r' F' ∧ From w F F' := by
  unfold R.wr at hr'
  cases hd : r.down
  · rw [if_neg (by simp [hd])] at hr'
    split at hr'
    · rename_i hp
      injection hr' with e1 e2
      subst e1 e2
      refine (rfWrite_page h hd hn hm hp).mono ?_
      rintro e w' ⟨rfl, rfl⟩
      exact ⟨rfl, Keeps.refl _ _, _, h, From.refl _ _⟩
    · rename_i hp
      split at hr'
      · rename_i hl
        injection hr' with e1 e2
        subst e1 e2
        obtain ⟨a, cp, rfl, hc, _⟩ := hv.form
        refine (rfWrite_size h hd hn hm (by omega) (by omega) hl).mono ?_
        rintro e w' ⟨rfl, rfl⟩
        exact ⟨rfl, Keeps.refl _ _, _, h, From.refl _ _⟩
      · rename_i hl
        injection hr' with e1 e2
        subst e1 e2
        obtain ⟨p, rfl⟩ : ∃ p : Nat, page = p := ⟨page.toNat, by omega⟩
        exact rfWrite_ok h hd hn hm p (by omega) hv (by omega) hq rfl (by simp [R.push])
  · rw [if_pos hd] at hr'
    injection hr' with e1 e2
    subst e1 e2
    refine (rfWrite_down h hd).mono ?_
    rintro e w' ⟨rfl, rfl⟩
    exact ⟨rfl, Keeps.refl _ _, _, h, From.refl _ _⟩
theorem dSy_any (h : DiskAt w b d F) {c : Int} {d' : D} (hd' : d.sy = (c, d')) :
    Calls Try.prog 13 #[.pointer (some ⟨b, 0, none⟩)] w fun e w' => e = .returned (.int .i64 c) ∧ Keeps F w w' ∧ ∃ F', DiskAt w' b d' F' ∧ From w F F' := by
  unfold D.sy at hd'
  cases hdd : d.dead
  · rw [if_neg (by simp [hdd])] at hd'
    split at hd'
    · rename_i ha
      injection hd' with e1 e2
      subst e1 e2
      refine (sync_gone_thing h hdd ha).mono ?_
      rintro e w' ⟨rfl, hk, hD⟩
      exact ⟨rfl, hk, _, hD, From.refl _ _⟩
    · rename_i ha
      injection hd' with e1 e2
      subst e1 e2
      exact sync_ok_thing h hdd ha
  · rw [if_pos hdd] at hd'
    injection hd' with e1 e2
    subst e1 e2
    obtain ⟨bp, qv, bm, hI, rfl⟩ := h
    obtain ⟨c0, c1, c2, c3, c4, c5, c6, c7, c8, c9⟩ := hI.cells
    rw [hdd] at c8
    refine (dSync_down c8).mono ?_
    rintro e w' ⟨rfl, rfl⟩
    exact ⟨rfl, Keeps.refl _ _, _, ⟨bp, qv, bm, hI, rfl⟩, From.refl _ _⟩
theorem rfSy_any (h : RefAt w b r F) (hq : r.log.length < 4294967296) {c : Int} {r' : R} (hr' : r.sy = (c, r')) :
    Calls Try.prog 61 #[.pointer (some ⟨b, 0, none⟩)] w fun e w' => e = .returned (.int .i64 c) ∧ Keeps F w w' ∧ ∃ F', RefAt w' b r' F' ∧ From w F F' := by
  unfold R.sy at hr'
  cases hd : r.down
  · rw [if_neg (by simp [hd])] at hr'
    split at hr'
    · rename_i ha
      injection hr' with e1 e2
      subst e1 e2
      refine (rfSync_gone h hd ha).mono ?_
      rintro e w' ⟨rfl, hk, hD⟩
      exact ⟨rfl, hk, _, hD, From.refl _ _⟩
    · rename_i ha
      injection hr' with e1 e2
      subst e1 e2
      exact rfSync_ok h hd ha hq
  · rw [if_pos hd] at hr'
    injection hr' with e1 e2
    subst e1 e2
    refine (rfSync_down h hd).mono ?_
    rintro e w' ⟨rfl, rfl⟩
    exact ⟨rfl, Keeps.refl _ _, _, h, From.refl _ _⟩
theorem dAr_any (h : DiskAt w b d F) (n : Int) (n1 : n ≤ 9223372036854775807) {d' : D} (hd' : d' = d.ar n) :
    Calls Try.prog 27 #[.pointer (some ⟨b, 0, none⟩), .int .i64 n] w fun e w' => e = .returned (.tuple #[]) ∧ Keeps F w w' ∧ DiskAt w' b d' F := by
  unfold D.ar at hd'
  cases hdd : d.dead
  · rw [if_neg (by simp [hdd])] at hd'
    exact arm_thing h hdd n n1 hd'
  · rw [if_pos hdd] at hd'
    subst hd'
    obtain ⟨bp, qv, bm, hI, rfl⟩ := h
    obtain ⟨c0, c1, c2, c3, c4, c5, c6, c7, c8, c9⟩ := hI.cells
    rw [hdd] at c8
    refine (dArm_any c7 c8 (hI.free 7)).mono ?_
    rintro e w' ⟨rfl, hw⟩
    simp only [if_true] at hw
    subst hw
    exact ⟨rfl, Keeps.refl _ _, bp, qv, bm, hI, rfl⟩
theorem rfAr_any (h : RefAt w b r F) (n : Int) (n1 : n ≤ 9223372036854775807) {r' : R} (hr' : r' = r.ar n) :
    Calls Try.prog 62 #[.pointer (some ⟨b, 0, none⟩), .int .i64 n] w fun e w' => e = .returned (.tuple #[]) ∧ Keeps F w w' ∧ RefAt w' b r' F :=
  rfArm_any h n n1 hr'
theorem dFl_any (h : DiskAt w b d F) (page bit : Int) (pat : Nat) (hp : pat < 4294967296) {c : Int} {d' : D} (hd' : d.fl page bit pat = (c, d')) :
    Calls Try.prog 22 #[.pointer (some ⟨b, 0, none⟩), .int .i64 page, .int .i64 bit, .int .u32 pat] w fun e w' => e = .returned (.int .i64 c) ∧ Keeps F w w' ∧ DiskAt w' b d' F := by
  unfold D.fl at hd'
  split at hd'
  · rename_i h1
    injection hd' with e1 e2
    subst e1 e2
    refine (flip_page_thing h h1).mono ?_
    rintro e w' ⟨rfl, rfl⟩
    exact ⟨rfl, Keeps.refl _ _, h⟩
  · rename_i h1
    split at hd'
    · rename_i h2
      injection hd' with e1 e2
      subst e1 e2
      refine (flip_arg_thing h (by omega) (by omega) h2).mono ?_
      rintro e w' ⟨rfl, rfl⟩
      exact ⟨rfl, Keeps.refl _ _, h⟩
    · rename_i h2
      injection hd' with e1 e2
      obtain ⟨p, rfl⟩ : ∃ p : Nat, page = p := ⟨page.toNat, by omega⟩
      obtain ⟨q, rfl⟩ : ∃ q : Nat, bit = q := ⟨bit.toNat, by omega⟩
      subst e1
      exact flip_thing h p q pat (by omega) (by omega) hp (by rw [← e2]; simp)
theorem rfFl_any (h : RefAt w b r F) {n : Nat} (hn : r.base.length = 256 * n) (hm : n ≤ 4096) (page bit : Int) (pat : Nat) (hq : r.log.length < 4294967296) {c : Int} {r' : R} (hr' : r.fl n page bit pat = (c, r')) :
    Calls Try.prog 64 #[.pointer (some ⟨b, 0, none⟩), .int .i64 page, .int .i64 bit, .int .u32 pat] w fun e w' => e = .returned (.int .i64 c) ∧ Keeps F w w' ∧ ∃ F', RefAt w' b r' F' ∧ From w F F' := by
  unfold R.fl at hr'
  split at hr'
  · rename_i h1
    injection hr' with e1 e2
    subst e1 e2
    refine (rfFlip_page h hn hm h1).mono ?_
    rintro e w' ⟨rfl, rfl⟩
    exact ⟨rfl, Keeps.refl _ _, _, h, From.refl _ _⟩
  · rename_i h1
    split at hr'
    · rename_i h2
      injection hr' with e1 e2
      subst e1 e2
      refine (rfFlip_arg h hn hm (by omega) (by omega) h2).mono ?_
      rintro e w' ⟨rfl, rfl⟩
      exact ⟨rfl, Keeps.refl _ _, _, h, From.refl _ _⟩
    · rename_i h2
      injection hr' with e1 e2
      obtain ⟨p, rfl⟩ : ∃ p : Nat, page = p := ⟨page.toNat, by omega⟩
      obtain ⟨q, rfl⟩ : ∃ q : Nat, bit = q := ⟨bit.toNat, by omega⟩
      subst e1 e2
      exact rfFlip_ok h hn hm p q pat (by omega) (by omega) hq
theorem rfCr_any (h : RefAt w b r F) {d : D} (hl : Like d r) {v : Value} {data : List UInt8} (hv : BytesAt w v data) (hd : data.length ≤ 16777216) (hq : r.log.length < 4294967296) {n : Nat} (hn : d.q.length = n) :
    Calls Try.prog 63 #[.pointer (some ⟨b, 0, none⟩), v] w fun e w' => e = .returned (.int .i64 n) ∧ Keeps F w w' ∧ ∃ F', RefAt w' b (r.cr data) F' ∧ From w F F' :=
  rfCrash_ok h hv hd hq (fun e he => (hl.al.evs e he).kinds) (hl.al.openN.trans hn) rfl
theorem dCl_any (h : DiskAt w b d F) {n : Int} (hn : n = wrap64 (d.epoch + 1)) :
    Calls Try.prog 65 #[.pointer (some ⟨b, 0, none⟩)] w fun e w' => e = .returned (.int .i64 n) ∧ Keeps F w w' ∧ DiskAt w' b { d with epoch := n } F := by
  subst hn
  obtain ⟨bp, qv, bm, hI, rfl⟩ := h
  obtain ⟨c0, c1, c2, c3, c4, c5, c6, c7, c8, c9⟩ := hI.cells
  refine (dClaim_any c9 (hI.free 9)).mono ?_
  rintro e w' ⟨rfl, rfl⟩
  exact ⟨rfl, (Keeps.refl _ _).setCell (.inl (by simp)) _, bp, qv, bm, hI.setc { d with epoch := wrap64 (d.epoch + 1) } 9 _ rfl rfl hI.ok rfl, rfl⟩
/-- What a Read answers. -/
def D.code (d : D) (page : Int) : Int := if d.dead then 2 else if page < 0 ∨ (d.n : Int) ≤ page then 41 else 0
def D.told (d : D) (page : Int) : List UInt8 := if d.code page = 0 then d.read page.toNat else []
def D.rd (d : D) (page : Int) : D := if d.code page = 0 then { d with reads := wrap64 (d.reads + 1) } else d
def R.rd (r : R) (c : Int) : R := if c = 0 then { r with seen := wrap64 (r.seen + 1) } else r
theorem dRd_any (h : DiskAt w b d F) (page : Int) {c : Int} (hc : d.code page = c) {l : List UInt8} (hl : d.told page = l) :
    Calls Try.prog 25 #[.pointer (some ⟨b, 0, none⟩), .int .i64 page] w fun e w' => ∃ v, e = .returned (.tuple #[v, .int .i64 c]) ∧ OwnB w' v l ∧ (∀ k, v.ownBlock = some k → w.heap.size ≤ k) ∧ Keeps F w w' ∧ DiskAt w' b (d.rd page) F := by
  subst hl hc
  unfold D.told D.rd
  unfold D.code
  cases hdd : d.dead
  · simp only [Bool.false_eq_true, if_false]
    by_cases hp : page < 0 ∨ (d.n : Int) ≤ page
    · simp only [if_pos hp]
      obtain ⟨bp, qv, bm, hI, rfl⟩ := h
      obtain ⟨c0, c1, c2, c3, c4, c5, c6, c7, c8, c9⟩ := hI.cells
      rw [hdd] at c8
      refine (dRead_page c4 c8 hp).mono ?_
      rintro e w' ⟨rfl, rfl⟩
      exact ⟨_, rfl, World.ownsRow_nil _ _ _ _, by simp [Value.ownBlock], Keeps.refl _ _, bp, qv, bm, hI, rfl⟩
    · simp only [if_neg hp]
      obtain ⟨p, rfl⟩ : ∃ p : Nat, page = p := ⟨page.toNat, by omega⟩
      refine (read_thing h hdd p (by omega)).mono ?_
      rintro e w' ⟨g, cap, rfl, hg, hO, hD, hk⟩
      refine ⟨_, rfl, hO, fun k hk => ?_, hk, by rw [if_pos trivial]; rw [hdd] at hD; exact hD⟩
      have e : g = k := by simpa [Value.ownBlock] using hk
      omega
  · simp only [if_true]
    obtain ⟨bp, qv, bm, hI, rfl⟩ := h
    obtain ⟨c0, c1, c2, c3, c4, c5, c6, c7, c8, c9⟩ := hI.cells
    rw [hdd] at c8
    refine (dRead_down c8).mono ?_
    rintro e w' ⟨rfl, rfl⟩
    exact ⟨_, rfl, World.ownsRow_nil _ _ _ _, by simp [Value.ownBlock], Keeps.refl _ _, bp, qv, bm, hI, rfl⟩
theorem rfRd_any (h : RefAt w b r F) {d : D} (hl : Like d r) (hm : d.n ≤ 4096) (hq : r.log.length < 4294967296) (page : Int) {c : Int} (hc : d.code page = c) {l : List UInt8} (hl2 : d.told page = l) :
    Calls Try.prog 47 #[.pointer (some ⟨b, 0, none⟩), .int .i64 page] w fun e w' => ∃ v, e = .returned (.tuple #[v, .int .i64 c]) ∧ OwnB w' v l ∧ (∀ k, v.ownBlock = some k → w.heap.size ≤ k) ∧ Keeps F w w' ∧ RefAt w' b (r.rd c) F := by
  subst hl2 hc
  have hdn := hl.al.dead
  unfold D.told R.rd
  unfold D.code
  cases hdd : d.dead
  · simp only [Bool.false_eq_true, if_false]
    have hrd : r.down = false := hdn.symm.trans hdd
    by_cases hp : page < 0 ∨ (d.n : Int) ≤ page
    · simp only [if_pos hp]
      refine (rfRead_page h hrd hl.al.n hm hp).mono ?_
      rintro e w' ⟨rfl, rfl⟩
      exact ⟨_, rfl, World.ownsRow_nil _ _ _ _, by simp [Value.ownBlock], Keeps.refl _ _, h⟩
    · simp only [if_neg hp]
      obtain ⟨p, rfl⟩ : ∃ p : Nat, page = p := ⟨page.toNat, by omega⟩
      refine (rfRead_ok h hrd hl.al.n hm p (by omega) hq hl.al.evs).mono ?_
      rintro e w' ⟨g, cap, rfl, hg, hO, hk, hD⟩
      refine ⟨_, rfl, ?_, fun k hk => ?_, hk, hD⟩
      · simp only [if_true, Int.toNat_natCast]
        rw [hl.al.read]
        exact hO
      have e : g = k := by simpa [Value.ownBlock] using hk
      omega
  · simp only [if_true]
    have hrd : r.down = true := hdn.symm.trans hdd
    refine (rfRead_down h hrd page).mono ?_
    rintro e w' ⟨rfl, rfl⟩
    exact ⟨_, rfl, World.ownsRow_nil _ _ _ _, by simp [Value.ownBlock], Keeps.refl _ _, h⟩
theorem Like.reads (h : Like d r) (page : Int) : Like (d.rd page) (r.rd (d.code page)) ∧ (r.rd (d.code page)).log = r.log ∧ (d.rd page).n = d.n := by
  unfold D.rd R.rd
  split
  · exact ⟨h.looked, rfl, rfl⟩
  · exact ⟨h, rfl, rfl⟩
theorem dIm_any (h : DiskAt w b d F) : Calls Try.prog 14 #[.pointer (some ⟨b, 0, none⟩)] w fun e w' => ∃ v, e = .returned v ∧ OwnB w' v d.img ∧ (∀ k, v.ownBlock = some k → w.heap.size ≤ k) ∧ Keeps [] w w' := by
  refine (image_thing h).mono ?_
  rintro e w' ⟨g, cap, rfl, hg, hO, hk⟩
  refine ⟨_, rfl, hO, fun k hk => ?_, hk⟩
  have e : g = k := by simpa [Value.ownBlock] using hk
  omega
theorem rfIm_any (h : RefAt w b r F) {d : D} (hl : Like d r) (hm : d.n ≤ 4096) (hq : r.log.length < 4294967296) : Calls Try.prog 42 #[.pointer (some ⟨b, 0, none⟩)] w fun e w' => ∃ v, e = .returned v ∧ OwnB w' v d.img ∧ (∀ k, v.ownBlock = some k → w.heap.size ≤ k) ∧ Keeps [] w w' := by
  rw [hl.al.img]
  exact rfImage_any h hl.al.n hm hq hl.al.evs
theorem dCo_any (h : DiskAt w b d F) {x y z n : Int} (hx : d.reads = x) (hy : d.writes = y) (hz : d.syncs = z) (hn : d.q.length = n) :
    Calls Try.prog 29 #[.pointer (some ⟨b, 0, none⟩)] w fun e w' => e = .returned (.agg #[.int .i64 x, .int .i64 y, .int .i64 z, .int .i64 n]) ∧ Keeps [] w w' := by
  subst hx hy hz hn
  obtain ⟨bp, qv, bm, hI, rfl⟩ := h
  obtain ⟨c0, c1, c2, c3, c4, c5, c6, c7, c8, c9⟩ := hI.cells
  exact dCounts_any c0 c1 c2 c3
theorem rfCo_any (h : RefAt w b r F) {d : D} (hl : Like d r) (hq : r.log.length < 4294967296) {x y z n : Int} (hx : d.reads = x) (hy : d.writes = y) (hz : d.syncs = z) (hn : d.q.length = n) :
    Calls Try.prog 51 #[.pointer (some ⟨b, 0, none⟩)] w fun e w' => e = .returned (.agg #[.int .i64 x, .int .i64 y, .int .i64 z, .int .i64 n]) ∧ Keeps [] w w' := by
  subst hx hy hz hn
  rw [hl.wr, hl.sy, hl.al.reads]
  exact rfCounts_any h hq (fun e he => (hl.al.evs e he).kinds) hl.al.openN
theorem dPo_any (h : DiskAt w b d F) {p : Bool} (hp : (!d.dead) = p) : Calls Try.prog 20 #[.pointer (some ⟨b, 0, none⟩)] w fun e w' => e = .returned (.bool p) ∧ w = w' := power_thing h (by rw [← hp, Bool.not_not])
theorem rfPo_any (h : RefAt w b r F) {d : D} (hl : Like d r) {p : Bool} (hp : (!d.dead) = p) : Calls Try.prog 49 #[.pointer (some ⟨b, 0, none⟩)] w fun e w' => e = .returned (.bool p) ∧ w = w' := by
  subst hp
  rw [hl.al.dead]
  exact rfPower_any h
theorem rfEp_any (h : RefAt w b r F) {d : D} (hl : Like d r) {n : Int} (hn : d.epoch = n) : Calls Try.prog 50 #[.pointer (some ⟨b, 0, none⟩)] w fun e w' => e = .returned (.int .i64 n) ∧ w = w' := by
  subst hn
  rw [hl.al.epoch]
  exact rfEpoch_any h
end
end Go.Proofs.Ytbjffjplpnnhoaa
