/-
  The row of disks of layer 4's law: acts: the write. Printed by gen_acts.py.
-/
import Derived.Test.YtbjffjplpnnhoaaBkO
namespace Go.Proofs.Ytbjffjplpnnhoaa
set_option linter.unusedVariables false
set_option linter.unusedSimpArgs false
open Go.RowKit

set_option maxRecDepth 100000 in
set_option maxHeartbeats 2000000 in
theorem acts_write {w0 w : World} {b L : Nat} {xs ys : List En} {e : En} {o : OpV} (h : RowAt w0 b (xs ++ e :: ys) [] w) (ho : o.ok w0) (hE : EnOk e L) (hL : L ≤ 4294967000) (hk : o.kind = 5) :
    Calls Try.prog 53 #[.pointer (some ⟨b, 0, none⟩), .agg o.cells, .pointer (some ⟨e.bd, 0, none⟩), .pointer (some ⟨e.br, 0, none⟩)] w (ActPost w0 b xs ys (L + 2)) := by
  have HO := Lib.hid ho
  obtain ⟨da, dc, hdv, hdc, hdm⟩ := ho.data.form
  obtain ⟨kind, dn, n, m, dv, data, pat⟩ := o
  simp only at hdv
  subst hdv
  simp only at hk
  subst hk
  have hlen := ho.len
  have hnn := ho.nn
  have hmm := ho.mm
  have hpt := ho.pt
  simp only at hlen hnn hmm hpt
  unfold maxLen at hdm
  obtain ⟨ln, hln⟩ : ∃ ln, ln = data.length := ⟨_, rfl⟩
  obtain ⟨g0, hg0⟩ : ∃ g0, g0 = w.heap.size := ⟨_, rfl⟩
  rw [← hln] at hdc hlen
  obtain ⟨O, hO⟩ : ∃ O : OpV, O = ⟨5, dn, n, m, .slice da data.length dc, data, pat⟩ := ⟨_, rfl⟩
  rw [← hO] at HO
  have hOc : O.cells = #[.int .i64 5, .int .i64 dn, .int .i64 n, .int .i64 m, .slice da ln dc, .int .u32 pat] := by rw [hO, hln]; rfl
  rw [show OpV.cells ⟨5, dn, n, m, .slice da data.length dc, data, pat⟩ = #[.int .i64 5, .int .i64 dn, .int .i64 n, .int .i64 m, .slice da ln dc, .int .u32 pat] from by rw [hln]; rfl]
  obtain ⟨w1, hw1⟩ : ∃ w1, w1 = w.alloc (.cells #[.int .i64 5, .int .i64 dn, .int .i64 n, .int .i64 m, .slice da ln dc, .int .u32 pat] 80 (0, 0)) := ⟨_, rfl⟩
  have h1 : RowAt w0 b (xs ++ e :: ys) [opT g0 O] w1 := h.add (w' := w1) (t := opT g0 O) (by rw [hw1]; exact (Keeps.refl _ _).alloc _) (show w1.heap[g0]? = some (.cells O.cells 80 (0, 0)) by rw [hw1, hOc]; exact heap_new_at hg0) (fun i hi => .inr (by simp [opT, blockThing] at hi; omega))
  have hcells : ∀ (wx : World) (zs : List En) (M : List Thing), RowAt w0 b zs M wx → opT g0 O ∈ M → wx.cell? ⟨g0, 0, none⟩ = some (.int .i64 5) ∧ wx.cell? ⟨g0, 2, none⟩ = some (.int .i64 n) ∧ wx.cell? ⟨g0, 3, none⟩ = some (.int .i64 m) ∧ wx.cell? ⟨g0, 4, none⟩ = some (.slice da ln dc) ∧ wx.cell? ⟨g0, 5, none⟩ = some (.int .u32 pat) := by
    intro wx zs M hx hm
    obtain ⟨c0, c1, c2, c3, c4, c5⟩ := OpV.cellsAt (hx.op hm)
    rw [hO] at c0 c1 c2 c3 c4 c5
    simp only [← hln] at c0 c1 c2 c3 c4 c5
    exact ⟨c0, c2, c3, c4, c5⟩
  have hdat : ∀ (wx : World) (zs : List En) (M : List Thing), RowAt w0 b zs M wx → BytesAt wx (.slice da ln dc) data := by
    intro wx zs M hx
    have := hx.dv HO.out
    rw [hO] at this
    rw [hln]
    exact this
  have HC := Lib.hid hcells
  have HD := Lib.hid hdat
  have CR := Lib.hid (lRoomy_any (hdat _ _ _ h1) (by rw [← hln]; omega))
  have HW1 := Lib.hid hw1
  have HG0 := Lib.hid hg0
  have H1 := Lib.hid h1
  have HE := Lib.hid hE
  have HLN := Lib.hid hln
  obtain ⟨p0, p2, p3, p4, p5⟩ := hcells _ _ _ h1 (by simp)
  clear hcells hdat hw1 h1 hO hOc hg0 h ho hE hln HO
  go_enter Try.func53, Try.ntmps53
  go_upto_region 1 with fail
  rw [← HW1.out, ← HG0.out]
  go_wp2_with fail
  refine CR.out.mono ?_
  rintro x w2 ⟨g, N, hN, rfl, hg, hO2, hk2⟩
  have h2 := H1.out.add hk2 (t := bytesThing (.slice (some ⟨g, 0, none⟩) N N) (roomed data)) hO2 (fun i hi => .inr (by simp [bytesThing, Value.ownBlock] at hi; omega))
  obtain ⟨p0, p2, p3, p4, p5⟩ := HC.out _ _ _ h2 (by simp)
  rw [← HLN.out] at hN
  have n1 : ln ≤ N := by omega
  have n2 : N ≤ 1048656 := by omega
  have H2 := Lib.hid h2
  have hpre : ∀ (wx : World), OwnB wx (.slice (some ⟨g, 0, none⟩) N N) (roomed data) → BytesAt wx (.slice (some ⟨g, 0, none⟩) ln N) data := fun wx hx => by
    have := ownB_bytes (hx.headPart (k := ln) n1)
    rw [show (roomed data).take ln = data from by rw [HLN.out]; exact roomed_take data] at this
    exact this
  have HP := Lib.hid hpre
  clear h2 hO2 hk2 hg hN CR H1 hpre
  have hs := HE.out.like.wrote (by have := HE.out.log; omega) n data
  obtain ⟨sc, hsc⟩ : ∃ sc, sc = (e.d.wr n data).1 := ⟨_, rfl⟩
  have t1 : (sc == sc) = true := by simp
  have HSC := Lib.hid hsc
  have HS := Lib.hid hs
  clear hsc hs
  go_upto_region 6 with fail
  refine rl_start (fun wy => wy.cell? ⟨g0, 2, none⟩ = some (.int .i64 n) ∧ wy.cell? ⟨g0, 4, none⟩ = some (.slice da ln dc)) 12 (by kernel_rfl) ?_ (fun hHeld => ?_)
  · exact ⟨p2, p4⟩
  refine' rl_take (i := 0) (v := _) rfl (by kernel_rfl) (by kernel_rfl) (by kernel_rfl) (by kernel_rfl) (fun _ _ _ h => h) (Or.inl ⟨by rfl, ?_⟩) (by assumption) ?_
  rotate_left 1
  · (intro w0 hSw; (try dsimp only at hSw); go_split_ands; go_simp; (try with_reducible rfl))
  try simp only [Act.put, List.setIfInBounds_toArray, List.set_cons_zero, List.set_cons_succ, List.getElem_toArray, List.getElem_cons_zero, List.getElem_cons_succ]
  refine' rl_take (i := 1) (v := _) rfl (by kernel_rfl) (by kernel_rfl) (by kernel_rfl) (by kernel_rfl) (fun _ _ _ h => h) (Or.inl ⟨by rfl, ?_⟩) (by assumption) ?_
  rotate_left 1
  · (intro w0 hSw; (try dsimp only at hSw); go_split_ands; go_simp; (try with_reducible rfl))
  try simp only [Act.put, List.setIfInBounds_toArray, List.set_cons_zero, List.set_cons_succ, List.getElem_toArray, List.getElem_cons_zero, List.getElem_cons_succ]
  refine' rl_take (i := 2) (v := _) rfl (by kernel_rfl) (by kernel_rfl) (by kernel_rfl) (by kernel_rfl) (fun _ _ _ h => h) (Or.inl ⟨by rfl, ?_⟩) (by assumption) ?_
  rotate_left 1
  · (intro w0 hSw; (try dsimp only at hSw); go_split_ands; go_simp; (try with_reducible rfl))
  try simp only [Act.put, List.setIfInBounds_toArray, List.set_cons_zero, List.set_cons_succ, List.getElem_toArray, List.getElem_cons_zero, List.getElem_cons_succ]
  refine' rl_take (i := 3) (v := _) rfl (by kernel_rfl) (by kernel_rfl) (by kernel_rfl) (by kernel_rfl) (fun _ _ _ h => h) (Or.inl ⟨by rfl, ?_⟩) (by assumption) ?_
  rotate_left 1
  · (intro w0 hSw; (try dsimp only at hSw); go_split_ands; go_simp; (try with_reducible rfl))
  try simp only [Act.put, List.setIfInBounds_toArray, List.set_cons_zero, List.set_cons_succ, List.getElem_toArray, List.getElem_cons_zero, List.getElem_cons_succ]
  refine' rl_take (i := 5) (v := _) rfl (by kernel_rfl) (by kernel_rfl) (by kernel_rfl) (by kernel_rfl) (fun _ _ _ h => h) (Or.inl ⟨by rfl, ?_⟩) (by assumption) ?_
  rotate_left 1
  · (intro w0 hSw; (try dsimp only at hSw); go_split_ands; go_simp; (try with_reducible rfl))
  try simp only [Act.put, List.setIfInBounds_toArray, List.set_cons_zero, List.set_cons_succ, List.getElem_toArray, List.getElem_cons_zero, List.getElem_cons_succ]
  refine' rl_take (i := 6) (v := _) rfl (by kernel_rfl) (by kernel_rfl) (by kernel_rfl) (by kernel_rfl) (fun _ _ _ h => h) (Or.inl ⟨by rfl, ?_⟩) (by assumption) ?_
  rotate_left 1
  · (intro w0 hSw; (try dsimp only at hSw); go_split_ands; go_simp; (try with_reducible rfl))
  try simp only [Act.put, List.setIfInBounds_toArray, List.set_cons_zero, List.set_cons_succ, List.getElem_toArray, List.getElem_cons_zero, List.getElem_cons_succ]
  refine' rl_take (i := 7) (v := _) rfl (by kernel_rfl) (by kernel_rfl) (by kernel_rfl) (by kernel_rfl) (fun _ _ _ h => h) (Or.inl ⟨by rfl, ?_⟩) (by assumption) ?_
  rotate_left 1
  · (intro w0 hSw; (try dsimp only at hSw); go_split_ands; go_simp; (try with_reducible rfl))
  try simp only [Act.put, List.setIfInBounds_toArray, List.set_cons_zero, List.set_cons_succ, List.getElem_toArray, List.getElem_cons_zero, List.getElem_cons_succ]
  refine' rl_take (i := 8) (v := _) rfl (by kernel_rfl) (by kernel_rfl) (by kernel_rfl) (by kernel_rfl) (fun _ _ _ h => h) (Or.inl ⟨by rfl, ?_⟩) (by assumption) ?_
  rotate_left 1
  · (intro w0 hSw; (try dsimp only at hSw); go_split_ands; go_simp; (try with_reducible rfl))
  try simp only [Act.put, List.setIfInBounds_toArray, List.set_cons_zero, List.set_cons_succ, List.getElem_toArray, List.getElem_cons_zero, List.getElem_cons_succ]
  refine' rl_take (i := 9) (v := _) rfl (by kernel_rfl) (by kernel_rfl) (by kernel_rfl) (by kernel_rfl) (fun _ _ _ h => h) (Or.inl ⟨by rfl, ?_⟩) (by assumption) ?_
  rotate_left 1
  · (intro w0 hSw; (try dsimp only at hSw); go_split_ands; go_simp; (try with_reducible rfl))
  try simp only [Act.put, List.setIfInBounds_toArray, List.set_cons_zero, List.set_cons_succ, List.getElem_toArray, List.getElem_cons_zero, List.getElem_cons_succ]
  have CD := Lib.hid (dWr_any (w := w2.drew) (DiskAt.keep (H2.out.disk (e := e) (by simp)) (fun _ _ => rfl)) n ((HP.out _ (H2.out.own (by simp))).keeps (F := []) (Keeps.refl _ _).drew (by simp)) (by have := HE.out.log; have := HE.out.like.qlen; omega) (c := sc) (d' := (e.d.wr n data).2) (by rw [HSC.out]))
  refine rl_act (i := 4) (by kernel_rfl) rfl (fun K hK => ?_)
  go_simp
  refine CD.out.mono ?_
  rintro x w3 ⟨rfl, hk3, F3, hD3, hf3⟩
  have h3 := (H2.out.keep (Keeps.refl _ w2).drew).updD rfl hk3 hD3 hf3
  have CE := Lib.hid (rfWr_any (h3.ref (e := { e with d := (e.d.wr n data).2, FD := F3 }) (by simp)) (n := e.d.n) HE.out.like.al.n HE.out.n n (HD.out _ _ _ h3) (by have := HE.out.log; simp only; omega) (c := sc) (r' := (e.r.wr e.d.n n data).2) (by rw [HSC.out, HS.out.1]))
  have H3 := Lib.hid h3
  obtain ⟨p0, p2', p3', p4', p5'⟩ := HC.out _ _ _ h3 (by simp)
  clear h3 hk3 hD3 hf3 CD H2
  refine hK.out _ _ ?_ (fun hHeld => ?_)
  · exact ⟨p2', p4'⟩
  clear hK K
  try simp only [Act.put, List.setIfInBounds_toArray, List.set_cons_zero, List.set_cons_succ, List.getElem_toArray, List.getElem_cons_zero, List.getElem_cons_succ]
  refine rl_act (i := 10) (by kernel_rfl) rfl (fun K hK => ?_)
  go_simp
  refine CE.out.mono ?_
  rintro x w4 ⟨rfl, hk4, F4, hR4, hf4⟩
  have H4 := Lib.hid (H3.out.updR rfl hk4 hR4 hf4)
  have HE4 : Hid (EnOk ⟨e.bd, (e.d.wr n data).2, F3, e.br, (e.r.wr e.d.n n data).2, F4⟩ (L + 1)) := Lib.hid ⟨HS.out.2.1, by have := HE.out.n; have := HS.out.2.2.2; simp only; omega, by have := HE.out.log; have := HS.out.2.2.1; simp only; omega⟩
  obtain ⟨p0, p2, p3, p4, p5⟩ := HC.out _ _ _ H4.out (by simp)
  clear hk4 hR4 hf4 CE H3 p2' p3' p4' p5'
  refine hK.out _ _ ?_ (fun hHeld => ?_)
  · exact ⟨p2, p4⟩
  clear hK K
  try simp only [Act.put, List.setIfInBounds_toArray, List.set_cons_zero, List.set_cons_succ, List.getElem_toArray, List.getElem_cons_zero, List.getElem_cons_succ]
  refine' rl_take (i := 11) (v := _) rfl (by kernel_rfl) (by kernel_rfl) (by kernel_rfl) (by kernel_rfl) (fun _ _ _ h => h) (Or.inl ⟨by rfl, ?_⟩) (by assumption) ?_
  rotate_left 1
  · (intro w0 hSw; (try dsimp only at hSw); go_split_ands; go_simp; (try with_reducible rfl))
  try simp only [Act.put, List.setIfInBounds_toArray, List.set_cons_zero, List.set_cons_succ, List.getElem_toArray, List.getElem_cons_zero, List.getElem_cons_succ]
  refine rl_last (by kernel_rfl) (by kernel_rfl) rfl (fun K hK => ?_)
  go_simp
  refine hK.out _ _ ?_
  clear hK K
  try simp only [Act.put, List.setIfInBounds_toArray, List.set_cons_zero, List.set_cons_succ, List.getElem_toArray, List.getElem_cons_zero, List.getElem_cons_succ]
  clear hHeld t1 HS HSC HE
  obtain ⟨e4, he4⟩ : ∃ e4 : En, e4 = ⟨e.bd, (e.d.wr n data).2, F3, e.br, (e.r.wr e.d.n n data).2, F4⟩ := ⟨_, rfl⟩
  have eb : e.bd = e4.bd := by rw [he4]
  have er : e.br = e4.br := by rw [he4]
  rw [← he4] at HE4 H4
  rw [eb, er]
  clear he4 eb er
  by_cases hbit : (bits BinOp.and IntKind.i64 m 1 == 1) = true
  · have CI := Lib.hid (lIntact_any (l := data) (H4.out.own (v := .slice (some ⟨g, 0, none⟩) N N) (l := roomed data) (by simp)) (HD.out _ _ _ H4.out) (by rw [← HLN.out]; omega))
    go_upto_region 8 with (go_at_call 45; refine CI.out.mono ?_; rintro x w5 ⟨rfl, hk5⟩; have H5 := Lib.hid (H4.out.keep hk5); clear hk5 H4 CI)
    obtain ⟨p0, p2, p3, p4, p5⟩ := HC.out _ _ _ H5.out (by simp)
    have CC := Lib.hid (lCopied_any (HD.out _ _ _ H5.out) (by rw [← HLN.out]; omega))
    go_wp2_with fail
    refine CC.out.mono ?_
    rintro x w6 ⟨aw, cw, rfl, hO6, hf6, hk6⟩
    have H6 := Lib.hid (H5.out.add hk6 (t := bytesThing (.slice aw data.length cw) data) hO6 (fun i hi => .inr (hf6 i (by simpa [bytesThing] using hi))))
    rw [← HLN.out] at H6 ⊢
    clear hO6 hf6 hk6 H5 CC p0 p2 p3 p4 p5
    go_wp2_with fail
    go_loopw [13] (fun iv wr => ∃ i : Nat, i ≤ ln ∧ iv = .int .i64 i ∧ RowAt w0 b (xs ++ e4 :: ys) [bytesThing (.slice aw ln cw) (flipAt data i), bytesThing (.slice (some ⟨g, 0, none⟩) N N) (roomed (flipAt data i)), opT g0 O] wr) (fun iv _ => ln - (intOf iv).toNat)
    case atStart => exact ⟨0, Nat.zero_le _, rfl, by rw [flipAt_zero]; exact H6.out⟩
    case round =>
      obtain ⟨i, hi, rfl, hR⟩ := hrel
      have i0 : (0 : Int) ≤ (i : Int) := by omega
      have HR := Lib.hid hR
      by_cases hlt : i < ln
      · have i1 : (i : Int) < (ln : Int) := by omega
        have i2 : (i : Int) < (N : Int) := by omega
        have hil : i < data.length := by rw [← HLN.out]; exact hlt
        have hOw := hR.own (v := .slice aw ln cw) (l := flipAt data i) (by simp)
        obtain ⟨gw, rfl⟩ := own_at hOw (by omega)
        have hfl : i < (flipAt data i).length := by rw [flipAt_length]; exact hil
        have f1 := hOw.cell i hfl
        have f2 := hOw.free i
        rw [flipAt_get data hil] at f1
        obtain ⟨xb, hxb⟩ : ∃ xb, xb = data[i] := ⟨_, rfl⟩
        rw [← hxb] at f1
        unfold B at f1
        have hxi := inv_int xb
        obtain ⟨yb, hyb⟩ : ∃ yb, yb = inv xb := ⟨_, rfl⟩
        rw [← hyb] at hxi
        have hset := hOw.set i hfl yb
        rw [hyb, hxb, flipAt_set data hil, ← hxb, ← hyb] at hset
        have hr1 := hR.upd (t := bytesThing (.slice (some ⟨gw, 0, none⟩) ln cw) (flipAt data i)) (t' := bytesThing (.slice (some ⟨gw, 0, none⟩) ln cw) (flipAt data (i + 1))) (List.Perm.refl _) ((Keeps.refl _ _).setCell (p := ⟨gw, i, none⟩) (.inl (by simp [bytesThing, Value.ownBlock])) (B yb)) hset (From.refl _ _)
        obtain ⟨w7, hw7⟩ : ∃ w7, w7 = wr.setCell ⟨gw, i, none⟩ (.int .u8 yb.toNat) := ⟨_, rfl⟩
        rw [show wr.setCell ⟨gw, i, none⟩ (B yb) = w7 from hw7.symm] at hr1
        have hOw7 := hr1.own (v := .slice (some ⟨gw, 0, none⟩) ln cw) (l := flipAt data (i + 1)) (by simp)
        have hOg7 := hr1.own (v := .slice (some ⟨g, 0, none⟩) N N) (l := roomed (flipAt data i)) (by simp)
        have k1 : w7.cell? ⟨gw, i, none⟩ = some (.int .u8 yb.toNat) := by
          rw [hOw7.cell i (by rw [flipAt_length]; exact hil)]
          have : (flipAt data (i + 1))[i]'(by rw [flipAt_length]; exact hil) = yb := by
            have e1 := flipAt_set data hil
            have e2 : (flipAt data (i + 1))[i]? = some (inv data[i]) := by rw [← e1, List.getElem?_set_self hfl]
            rw [List.getElem?_eq_getElem (by rw [flipAt_length]; exact hil)] at e2
            rw [hyb, hxb]
            exact Option.some.inj e2
          rw [this]
          rfl
        have hgl : i < (roomed (flipAt data i)).length := by rw [roomed_length, flipAt_length]; omega
        obtain ⟨old, hold⟩ : ∃ old, old = B (roomed (flipAt data i))[i] := ⟨_, rfl⟩
        have k2 := hOg7.cell i hgl
        rw [← hold] at k2
        have k3 := hOg7.free i
        have hset2 := hOg7.set i hgl yb
        rw [roomed_set _ hfl, hyb, hxb, flipAt_set data hil, ← hxb, ← hyb] at hset2
        have hr2 := (hr1.perm (List.Perm.swap _ _ _)).upd (t := bytesThing (.slice (some ⟨g, 0, none⟩) N N) (roomed (flipAt data i))) (t' := bytesThing (.slice (some ⟨g, 0, none⟩) N N) (roomed (flipAt data (i + 1)))) (List.Perm.refl _) ((Keeps.refl _ _).setCell (p := ⟨g, i, none⟩) (.inl (by simp [bytesThing, Value.ownBlock])) (B yb)) hset2 (From.refl _ _)
        have HR2 := Lib.hid (hr2.perm (List.Perm.swap _ _ _))
        have HW7 := Lib.hid hw7
        clear hR hOw hfl hset hr1 hw7 hOw7 hOg7 hgl hold hset2 hr2 hxb hyb H6 hil
        go_upto_region 13 with fail
        rw [← HW7.out]
        clear f1 f2 hxi
        go_wp2_with fail
        go_roundw
        case rel => exact ⟨i + 1, by omega, by go_num, HR2.out⟩
        case measure => simp [intOf]; omega
      · obtain rfl : i = ln := by omega
        have hR' := hR
        rw [HLN.out, flipAt_all, ← HLN.out] at hR'
        obtain ⟨dat2, hdat2⟩ : ∃ dat2, dat2 = data.map inv := ⟨_, rfl⟩
        rw [← hdat2] at hR'
        have hl2 : dat2.length = i := by rw [hdat2, List.length_map, HLN.out]
        have H7 := Lib.hid hR'
        have HL2 := Lib.hid hl2
        clear hR hR' hdat2 HR H6 hl2 i0
        have i1 : ¬ (i : Int) < (i : Int) := by omega
        obtain ⟨w7, rfl⟩ : ∃ w7 : World, w7 = wr := ⟨_, rfl⟩
        have hs := HE4.out.like.wrote (by have := HE4.out.log; omega) n dat2
        obtain ⟨sc, hsc⟩ : ∃ sc, sc = (e4.d.wr n dat2).1 := ⟨_, rfl⟩
        have t1 : (sc == sc) = true := by simp
        have HSC := Lib.hid hsc
        have HS := Lib.hid hs
        obtain ⟨p0, p2, p3, p4, p5⟩ := HC.out _ _ _ H7.out (by simp)
        have HP2 := Lib.hid (show ∀ (wx : World), OwnB wx (.slice (some ⟨g, 0, none⟩) N N) (roomed dat2) → BytesAt wx (.slice (some ⟨g, 0, none⟩) i N) dat2 from fun wx hx => by
          have := ownB_bytes (hx.headPart (k := i) n1)
          rw [show (roomed dat2).take i = dat2 from by rw [← HL2.out]; exact roomed_take dat2] at this
          exact this)
        clear hsc hs
        go_upto_region 14 with fail
        refine rl_start (fun wy => wy.cell? ⟨g0, 2, none⟩ = some (.int .i64 n)) 16 (by kernel_rfl) ?_ (fun hHeld => ?_)
        · exact p2
        refine' rl_take (i := 0) (v := _) rfl (by kernel_rfl) (by kernel_rfl) (by kernel_rfl) (by kernel_rfl) (fun _ _ _ h => h) (Or.inl ⟨by rfl, ?_⟩) (by assumption) ?_
        rotate_left 1
        · (intro w0 hSw; (try dsimp only at hSw); go_split_ands; go_simp; (try with_reducible rfl))
        try simp only [Act.put, List.setIfInBounds_toArray, List.set_cons_zero, List.set_cons_succ, List.getElem_toArray, List.getElem_cons_zero, List.getElem_cons_succ]
        refine' rl_take (i := 1) (v := _) rfl (by kernel_rfl) (by kernel_rfl) (by kernel_rfl) (by kernel_rfl) (fun _ _ _ h => h) (Or.inl ⟨by rfl, ?_⟩) (by assumption) ?_
        rotate_left 1
        · (intro w0 hSw; (try dsimp only at hSw); go_split_ands; go_simp; (try with_reducible rfl))
        try simp only [Act.put, List.setIfInBounds_toArray, List.set_cons_zero, List.set_cons_succ, List.getElem_toArray, List.getElem_cons_zero, List.getElem_cons_succ]
        refine' rl_take (i := 2) (v := _) rfl (by kernel_rfl) (by kernel_rfl) (by kernel_rfl) (by kernel_rfl) (fun _ _ _ h => h) (Or.inl ⟨by rfl, ?_⟩) (by assumption) ?_
        rotate_left 1
        · (intro w0 hSw; (try dsimp only at hSw); go_split_ands; go_simp; (try with_reducible rfl))
        try simp only [Act.put, List.setIfInBounds_toArray, List.set_cons_zero, List.set_cons_succ, List.getElem_toArray, List.getElem_cons_zero, List.getElem_cons_succ]
        refine' rl_take (i := 3) (v := _) rfl (by kernel_rfl) (by kernel_rfl) (by kernel_rfl) (by kernel_rfl) (fun _ _ _ h => h) (Or.inl ⟨by rfl, ?_⟩) (by assumption) ?_
        rotate_left 1
        · (intro w0 hSw; (try dsimp only at hSw); go_split_ands; go_simp; (try with_reducible rfl))
        try simp only [Act.put, List.setIfInBounds_toArray, List.set_cons_zero, List.set_cons_succ, List.getElem_toArray, List.getElem_cons_zero, List.getElem_cons_succ]
        refine' rl_take (i := 5) (v := _) rfl (by kernel_rfl) (by kernel_rfl) (by kernel_rfl) (by kernel_rfl) (fun _ _ _ h => h) (Or.inl ⟨by rfl, ?_⟩) (by assumption) ?_
        rotate_left 1
        · (intro w0 hSw; (try dsimp only at hSw); go_split_ands; go_simp; (try with_reducible rfl))
        try simp only [Act.put, List.setIfInBounds_toArray, List.set_cons_zero, List.set_cons_succ, List.getElem_toArray, List.getElem_cons_zero, List.getElem_cons_succ]
        refine' rl_take (i := 6) (v := _) rfl (by kernel_rfl) (by kernel_rfl) (by kernel_rfl) (by kernel_rfl) (fun _ _ _ h => h) (Or.inl ⟨by rfl, ?_⟩) (by assumption) ?_
        rotate_left 1
        · (intro w0 hSw; (try dsimp only at hSw); go_split_ands; go_simp; (try with_reducible rfl))
        try simp only [Act.put, List.setIfInBounds_toArray, List.set_cons_zero, List.set_cons_succ, List.getElem_toArray, List.getElem_cons_zero, List.getElem_cons_succ]
        refine' rl_take (i := 7) (v := _) rfl (by kernel_rfl) (by kernel_rfl) (by kernel_rfl) (by kernel_rfl) (fun _ _ _ h => h) (Or.inl ⟨by rfl, ?_⟩) (by assumption) ?_
        rotate_left 1
        · (intro w0 hSw; (try dsimp only at hSw); go_split_ands; go_simp; (try with_reducible rfl))
        try simp only [Act.put, List.setIfInBounds_toArray, List.set_cons_zero, List.set_cons_succ, List.getElem_toArray, List.getElem_cons_zero, List.getElem_cons_succ]
        refine' rl_take (i := 8) (v := _) rfl (by kernel_rfl) (by kernel_rfl) (by kernel_rfl) (by kernel_rfl) (fun _ _ _ h => h) (Or.inl ⟨by rfl, ?_⟩) (by assumption) ?_
        rotate_left 1
        · (intro w0 hSw; (try dsimp only at hSw); go_split_ands; go_simp; (try with_reducible rfl))
        try simp only [Act.put, List.setIfInBounds_toArray, List.set_cons_zero, List.set_cons_succ, List.getElem_toArray, List.getElem_cons_zero, List.getElem_cons_succ]
        have CD := Lib.hid (dWr_any (w := w7.drew) (DiskAt.keep (H7.out.disk (e := e4) (by simp)) (fun _ _ => rfl)) n ((HP2.out _ (H7.out.own (by simp))).keeps (F := []) (Keeps.refl _ _).drew (by simp)) (by have := HE4.out.log; have := HE4.out.like.qlen; omega) (c := sc) (d' := (e4.d.wr n dat2).2) (by rw [HSC.out]))
        refine rl_act (i := 4) (by kernel_rfl) rfl (fun K hK => ?_)
        go_simp
        refine CD.out.mono ?_
        rintro x w8 ⟨rfl, hk8, F8, hD8, hf8⟩
        have h8 := (H7.out.keep (Keeps.refl _ w7).drew).updD rfl hk8 hD8 hf8
        have CE := Lib.hid (rfWr_any (h8.ref (e := { e4 with d := (e4.d.wr n dat2).2, FD := F8 }) (by simp)) (n := e4.d.n) HE4.out.like.al.n HE4.out.n n (ownB_bytes (h8.own (v := .slice aw i cw) (l := dat2) (by simp))) (by have := HE4.out.log; simp only; omega) (c := sc) (r' := (e4.r.wr e4.d.n n dat2).2) (by rw [HSC.out, HS.out.1]))
        have H8 := Lib.hid h8
        obtain ⟨p0, p2', p3', p4', p5'⟩ := HC.out _ _ _ h8 (by simp)
        clear h8 hk8 hD8 hf8 CD H7
        refine hK.out _ _ ?_ (fun hHeld => ?_)
        · exact p2'
        clear hK K
        try simp only [Act.put, List.setIfInBounds_toArray, List.set_cons_zero, List.set_cons_succ, List.getElem_toArray, List.getElem_cons_zero, List.getElem_cons_succ]
        refine rl_act (i := 9) (by kernel_rfl) rfl (fun K hK => ?_)
        go_simp
        refine CE.out.mono ?_
        rintro x w9 ⟨rfl, hk9, F9, hR9, hf9⟩
        have h9 := H8.out.updR rfl hk9 hR9 hf9
        have H9 := Lib.hid h9
        have HEE : Hid (EnOk ⟨e4.bd, (e4.d.wr n dat2).2, F8, e4.br, (e4.r.wr e4.d.n n dat2).2, F9⟩ (L + 2)) := Lib.hid ⟨HS.out.2.1, by have := HE4.out.n; have := HS.out.2.2.2; simp only; omega, by have := HE4.out.log; have := HS.out.2.2.1; simp only; omega⟩
        have CI := Lib.hid (lIntact_any (l := dat2) (h9.own (v := .slice (some ⟨g, 0, none⟩) N N) (l := roomed dat2) (by simp)) (ownB_bytes (h9.own (v := .slice aw i cw) (l := dat2) (by simp))) (by rw [HL2.out]; omega))
        obtain ⟨p0, p2, p3, p4, p5⟩ := HC.out _ _ _ h9 (by simp)
        clear hk9 hR9 hf9 CE H8 p2' p3' p4' p5' h9
        refine hK.out _ _ ?_ (fun hHeld => ?_)
        · exact p2
        clear hK K
        try simp only [Act.put, List.setIfInBounds_toArray, List.set_cons_zero, List.set_cons_succ, List.getElem_toArray, List.getElem_cons_zero, List.getElem_cons_succ]
        refine' rl_take (i := 10) (v := _) rfl (by kernel_rfl) (by kernel_rfl) (by kernel_rfl) (by kernel_rfl) (fun _ _ _ h => h) (Or.inl ⟨by rfl, ?_⟩) (by assumption) ?_
        rotate_left 1
        · (intro w0 hSw; (try dsimp only at hSw); go_split_ands; go_simp; (try with_reducible rfl))
        try simp only [Act.put, List.setIfInBounds_toArray, List.set_cons_zero, List.set_cons_succ, List.getElem_toArray, List.getElem_cons_zero, List.getElem_cons_succ]
        refine' rl_take (i := 11) (v := _) rfl (by kernel_rfl) (by kernel_rfl) (by kernel_rfl) (by kernel_rfl) (fun _ _ _ h => h) (Or.inl ⟨by rfl, ?_⟩) (by assumption) ?_
        rotate_left 1
        · (intro w0 hSw; (try dsimp only at hSw); go_split_ands; go_simp; (try with_reducible rfl))
        try simp only [Act.put, List.setIfInBounds_toArray, List.set_cons_zero, List.set_cons_succ, List.getElem_toArray, List.getElem_cons_zero, List.getElem_cons_succ]
        refine' rl_take (i := 12) (v := _) rfl (by kernel_rfl) (by kernel_rfl) (by kernel_rfl) (by kernel_rfl) (fun _ _ _ h => h) (Or.inl ⟨by rfl, ?_⟩) (by assumption) ?_
        rotate_left 1
        · (intro w0 hSw; (try dsimp only at hSw); go_split_ands; go_simp; (try with_reducible rfl))
        try simp only [Act.put, List.setIfInBounds_toArray, List.set_cons_zero, List.set_cons_succ, List.getElem_toArray, List.getElem_cons_zero, List.getElem_cons_succ]
        refine' rl_take (i := 13) (v := _) rfl (by kernel_rfl) (by kernel_rfl) (by kernel_rfl) (by kernel_rfl) (fun _ _ _ h => h) (Or.inl ⟨by rfl, ?_⟩) (by assumption) ?_
        rotate_left 1
        · (intro w0 hSw; (try dsimp only at hSw); go_split_ands; go_simp; (try with_reducible rfl))
        try simp only [Act.put, List.setIfInBounds_toArray, List.set_cons_zero, List.set_cons_succ, List.getElem_toArray, List.getElem_cons_zero, List.getElem_cons_succ]
        refine rl_act (i := 14) (by kernel_rfl) rfl (fun K hK => ?_)
        go_simp
        refine CI.out.mono ?_
        rintro x w10 ⟨rfl, hk10⟩
        have h10 := H9.out.keep hk10
        have H10 := Lib.hid h10
        obtain ⟨p0, p2, p3, p4, p5⟩ := HC.out _ _ _ h10 (by simp)
        clear hk10 h10 CI H9
        refine hK.out _ _ ?_ (fun hHeld => ?_)
        · exact p2
        clear hK K
        try simp only [Act.put, List.setIfInBounds_toArray, List.set_cons_zero, List.set_cons_succ, List.getElem_toArray, List.getElem_cons_zero, List.getElem_cons_succ]
        refine' rl_take (i := 15) (v := _) rfl (by kernel_rfl) (by kernel_rfl) (by kernel_rfl) (by kernel_rfl) (fun _ _ _ h => h) (Or.inl ⟨by rfl, ?_⟩) (by assumption) ?_
        rotate_left 1
        · (intro w0 hSw; (try dsimp only at hSw); go_split_ands; go_simp; (try with_reducible rfl))
        try simp only [Act.put, List.setIfInBounds_toArray, List.set_cons_zero, List.set_cons_succ, List.getElem_toArray, List.getElem_cons_zero, List.getElem_cons_succ]
        refine rl_last (by kernel_rfl) (by kernel_rfl) rfl (fun K hK => ?_)
        go_simp
        refine hK.out _ _ ?_
        clear hK K
        try simp only [Act.put, List.setIfInBounds_toArray, List.set_cons_zero, List.set_cons_succ, List.getElem_toArray, List.getElem_cons_zero, List.getElem_cons_succ]
        clear hHeld t1 HS HSC HP2
        obtain ⟨w11, hcp, hO11, hk11⟩ := copy_back (N := N) (n := i) (c := N) (x := dat2) (l := data) (r := List.replicate 80 165) (H10.out.own (v := .slice (some ⟨g, 0, none⟩) N N) (l := roomed dat2) (by simp)) (by rw [HL2.out, HLN.out]) (HD.out _ _ _ H10.out) HLN.out 3
        have HCP := Lib.hid hcp
        have h11 := (H10.out.perm (List.Perm.swap _ _ _)).upd (w' := w11) (t := bytesThing (.slice (some ⟨g, 0, none⟩) N N) (roomed dat2)) (t' := bytesThing (.slice (some ⟨g, 0, none⟩) N N) (roomed data)) (List.Perm.refl _) (by simpa [bytesThing, Value.ownBlock] using hk11) hO11 (From.refl _ _)
        have HT := Lib.hid (h11.sub (N := [bytesThing (.slice (some ⟨g, 0, none⟩) N N) (roomed data), opT g0 O]) (List.Sublist.cons_cons _ (List.Sublist.cons _ (List.Sublist.refl _))))
        clear hcp hO11 hk11 h11 H10
        go_wp2_with fail
        rw [HCP.out]
        clear p0 p2 p3 p4 p5 HCP
        obtain ⟨p0, p2, p3, p4, p5⟩ := HC.out _ _ _ HT.out (by simp)
        have CI := Lib.hid (lIntact_any (l := data) (HT.out.own (v := .slice (some ⟨g, 0, none⟩) N N) (l := roomed data) (by simp)) (HD.out _ _ _ HT.out) (by rw [← HLN.out]; omega))
        go_wp2_with fail
        refine CI.out.mono ?_
        rintro x w8 ⟨rfl, hk8⟩
        have CK := Lib.hid ((HT.out.keep hk8).kept (by rw [roomed_length, ← HLN.out]; omega))
        clear hk8 p0 p2 p3 p4 p5 CI HT
        go_wp2_with fail
        refine CK.out.mono ?_
        rintro x w9 ⟨rfl, h9⟩
        have H9 := Lib.hid (h9.sub (List.nil_sublist _))
        clear h9 CK
        go_wp2_with fail
        go_ret
        exact ⟨rfl, _, HEE.out, H9.out⟩
  · have hbit' : (bits BinOp.and IntKind.i64 m 1 == 1) = false := by simpa using hbit
    clear hbit
    have HT := Lib.hid H4.out
    have HEE := Lib.hid (HE4.out.mono (K := L + 2) (by omega))
    clear H4 HE4
    obtain ⟨p0, p2, p3, p4, p5⟩ := HC.out _ _ _ HT.out (by simp)
    have CI := Lib.hid (lIntact_any (l := data) (HT.out.own (v := .slice (some ⟨g, 0, none⟩) N N) (l := roomed data) (by simp)) (HD.out _ _ _ HT.out) (by rw [← HLN.out]; omega))
    go_wp2_with fail
    refine CI.out.mono ?_
    rintro x w8 ⟨rfl, hk8⟩
    have CK := Lib.hid ((HT.out.keep hk8).kept (by rw [roomed_length, ← HLN.out]; omega))
    clear hk8 p0 p2 p3 p4 p5 CI HT
    go_wp2_with fail
    refine CK.out.mono ?_
    rintro x w9 ⟨rfl, h9⟩
    have H9 := Lib.hid (h9.sub (List.nil_sublist _))
    clear h9 CK
    go_wp2_with fail
    go_ret
    exact ⟨rfl, _, HEE.out, H9.out⟩
end Go.Proofs.Ytbjffjplpnnhoaa
