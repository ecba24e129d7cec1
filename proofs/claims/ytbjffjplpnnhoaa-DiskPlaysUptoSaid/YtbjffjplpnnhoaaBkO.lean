/-
  The row of disks of layer 4's law: acts, but the write. Printed by gen_acts.py.
-/
import Derived.Test.YtbjffjplpnnhoaaBkL
namespace Go.Proofs.Ytbjffjplpnnhoaa
set_option linter.unusedVariables false
set_option linter.unusedSimpArgs false
open Go.RowKit

set_option maxRecDepth 100000 in
set_option maxHeartbeats 2000000 in
theorem acts_none {w0 w : World} {b L : Nat} {xs ys : List En} {e : En} {o : OpV} (h : RowAt w0 b (xs ++ e :: ys) [] w) (ho : o.ok w0) (hE : EnOk e L) (hL : L ≤ 4294967000) (hk : o.kind ≠ 5 ∧ o.kind ≠ 6 ∧ o.kind ≠ 7 ∧ o.kind ≠ 8 ∧ o.kind ≠ 9 ∧ o.kind ≠ 13) :
    Calls Try.prog 53 #[.pointer (some ⟨b, 0, none⟩), .agg o.cells, .pointer (some ⟨e.bd, 0, none⟩), .pointer (some ⟨e.br, 0, none⟩)] w (ActPost w0 b xs ys (L + 2)) := by
  have HO := Lib.hid ho
  obtain ⟨da, dc, hdv, hdc, hdm⟩ := ho.data.form
  obtain ⟨kind, dn, n, m, dv, data, pat⟩ := o
  simp only at hdv
  subst hdv
  simp only at hk
  have k5 : (kind == 5) = false := by simp; exact hk.1
  have k6 : (kind == 6) = false := by simp; exact hk.2.1
  have k7 : (kind == 7) = false := by simp; exact hk.2.2.1
  have k8 : (kind == 8) = false := by simp; exact hk.2.2.2.1
  have k9 : (kind == 9) = false := by simp; exact hk.2.2.2.2.1
  have k13 : (kind == 13) = false := by simp; exact hk.2.2.2.2.2
  clear hk
  have hlen := ho.len
  have hnn := ho.nn
  have hmm := ho.mm
  have hpt := ho.pt
  simp only at hlen hnn hmm hpt
  unfold maxLen at hdm
  obtain ⟨ln, hln⟩ : ∃ ln, ln = data.length := ⟨_, rfl⟩
  obtain ⟨g0, hg0⟩ : ∃ g0, g0 = w.heap.size := ⟨_, rfl⟩
  rw [← hln] at hdc hlen
  obtain ⟨O, hO⟩ : ∃ O : OpV, O = ⟨kind, dn, n, m, .slice da data.length dc, data, pat⟩ := ⟨_, rfl⟩
  rw [← hO] at HO
  have hOc : O.cells = #[.int .i64 kind, .int .i64 dn, .int .i64 n, .int .i64 m, .slice da ln dc, .int .u32 pat] := by rw [hO, hln]; rfl
  rw [show OpV.cells ⟨kind, dn, n, m, .slice da data.length dc, data, pat⟩ = #[.int .i64 kind, .int .i64 dn, .int .i64 n, .int .i64 m, .slice da ln dc, .int .u32 pat] from by rw [hln]; rfl]
  obtain ⟨w1, hw1⟩ : ∃ w1, w1 = w.alloc (.cells #[.int .i64 kind, .int .i64 dn, .int .i64 n, .int .i64 m, .slice da ln dc, .int .u32 pat] 80 (0, 0)) := ⟨_, rfl⟩
  have h1 : RowAt w0 b (xs ++ e :: ys) [opT g0 O] w1 := h.add (w' := w1) (t := opT g0 O) (by rw [hw1]; exact (Keeps.refl _ _).alloc _) (show w1.heap[g0]? = some (.cells O.cells 80 (0, 0)) by rw [hw1, hOc]; exact heap_new_at hg0) (fun i hi => .inr (by simp [opT, blockThing] at hi; omega))
  have hcells : ∀ (wx : World) (zs : List En) (M : List Thing), RowAt w0 b zs M wx → opT g0 O ∈ M → wx.cell? ⟨g0, 0, none⟩ = some (.int .i64 kind) ∧ wx.cell? ⟨g0, 2, none⟩ = some (.int .i64 n) ∧ wx.cell? ⟨g0, 3, none⟩ = some (.int .i64 m) ∧ wx.cell? ⟨g0, 4, none⟩ = some (.slice da ln dc) ∧ wx.cell? ⟨g0, 5, none⟩ = some (.int .u32 pat) := by
    intro wx zs M hx hm
    obtain ⟨c0, c1, c2, c3, c4, c5⟩ := OpV.cellsAt (hx.op hm)
    rw [hO] at c0 c1 c2 c3 c4 c5
    simp only [← hln] at c0 c1 c2 c3 c4 c5
    exact ⟨c0, c2, c3, c4, c5⟩
  have hdat : ∀ (wx : World) (zs : List En) (M : List Thing), RowAt w0 b zs M wx → BytesAt wx (.slice da ln dc) data := by
    intro wx zs M hx
    have := hx.dv HO.out
    rw [hO] at this
    rw [hln]
    exact this
  have HC := Lib.hid hcells
  have HD := Lib.hid hdat
  have CR := Lib.hid (lRoomy_any (hdat _ _ _ h1) (by rw [← hln]; omega))
  have HW1 := Lib.hid hw1
  have HG0 := Lib.hid hg0
  have H1 := Lib.hid h1
  have HE := Lib.hid hE
  have HLN := Lib.hid hln
  obtain ⟨p0, p2, p3, p4, p5⟩ := hcells _ _ _ h1 (by simp)
  clear hcells hdat hw1 h1 hO hOc hg0 h ho hE hln HO
  go_enter Try.func53, Try.ntmps53
  go_upto_region 1 with fail
  rw [← HW1.out, ← HG0.out]
  go_wp2_with fail
  refine CR.out.mono ?_
  rintro x w2 ⟨g, N, hN, rfl, hg, hO2, hk2⟩
  have h2 := H1.out.add hk2 (t := bytesThing (.slice (some ⟨g, 0, none⟩) N N) (roomed data)) hO2 (fun i hi => .inr (by simp [bytesThing, Value.ownBlock] at hi; omega))
  obtain ⟨p0, p2, p3, p4, p5⟩ := HC.out _ _ _ h2 (by simp)
  rw [← HLN.out] at hN
  have n1 : ln ≤ N := by omega
  have n2 : N ≤ 1048656 := by omega
  have H2 := Lib.hid h2
  have hpre : ∀ (wx : World), OwnB wx (.slice (some ⟨g, 0, none⟩) N N) (roomed data) → BytesAt wx (.slice (some ⟨g, 0, none⟩) ln N) data := fun wx hx => by
    have := ownB_bytes (hx.headPart (k := ln) n1)
    rw [show (roomed data).take ln = data from by rw [HLN.out]; exact roomed_take data] at this
    exact this
  have HP := Lib.hid hpre
  clear h2 hO2 hk2 hg hN CR H1 hpre
  have HT := Lib.hid H2.out
  have HEE := Lib.hid (HE.out.mono (K := L + 2) (by omega))
  clear H2
  obtain ⟨p0, p2, p3, p4, p5⟩ := HC.out _ _ _ HT.out (by simp)
  have CI := Lib.hid (lIntact_any (l := data) (HT.out.own (v := .slice (some ⟨g, 0, none⟩) N N) (l := roomed data) (by simp)) (HD.out _ _ _ HT.out) (by rw [← HLN.out]; omega))
  go_wp2_with fail
  refine CI.out.mono ?_
  rintro x w8 ⟨rfl, hk8⟩
  have CK := Lib.hid ((HT.out.keep hk8).kept (by rw [roomed_length, ← HLN.out]; omega))
  clear hk8 p0 p2 p3 p4 p5 CI HT
  go_wp2_with fail
  refine CK.out.mono ?_
  rintro x w9 ⟨rfl, h9⟩
  have H9 := Lib.hid (h9.sub (List.nil_sublist _))
  clear h9 CK
  go_wp2_with fail
  go_ret
  exact ⟨rfl, _, HEE.out, H9.out⟩
set_option maxRecDepth 100000 in
set_option maxHeartbeats 2000000 in
theorem acts_sync {w0 w : World} {b L : Nat} {xs ys : List En} {e : En} {o : OpV} (h : RowAt w0 b (xs ++ e :: ys) [] w) (ho : o.ok w0) (hE : EnOk e L) (hL : L ≤ 4294967000) (hk : o.kind = 6) :
    Calls Try.prog 53 #[.pointer (some ⟨b, 0, none⟩), .agg o.cells, .pointer (some ⟨e.bd, 0, none⟩), .pointer (some ⟨e.br, 0, none⟩)] w (ActPost w0 b xs ys (L + 2)) := by
  have HO := Lib.hid ho
  obtain ⟨da, dc, hdv, hdc, hdm⟩ := ho.data.form
  obtain ⟨kind, dn, n, m, dv, data, pat⟩ := o
  simp only at hdv
  subst hdv
  simp only at hk
  subst hk
  have hlen := ho.len
  have hnn := ho.nn
  have hmm := ho.mm
  have hpt := ho.pt
  simp only at hlen hnn hmm hpt
  unfold maxLen at hdm
  obtain ⟨ln, hln⟩ : ∃ ln, ln = data.length := ⟨_, rfl⟩
  obtain ⟨g0, hg0⟩ : ∃ g0, g0 = w.heap.size := ⟨_, rfl⟩
  rw [← hln] at hdc hlen
  obtain ⟨O, hO⟩ : ∃ O : OpV, O = ⟨6, dn, n, m, .slice da data.length dc, data, pat⟩ := ⟨_, rfl⟩
  rw [← hO] at HO
  have hOc : O.cells = #[.int .i64 6, .int .i64 dn, .int .i64 n, .int .i64 m, .slice da ln dc, .int .u32 pat] := by rw [hO, hln]; rfl
  rw [show OpV.cells ⟨6, dn, n, m, .slice da data.length dc, data, pat⟩ = #[.int .i64 6, .int .i64 dn, .int .i64 n, .int .i64 m, .slice da ln dc, .int .u32 pat] from by rw [hln]; rfl]
  obtain ⟨w1, hw1⟩ : ∃ w1, w1 = w.alloc (.cells #[.int .i64 6, .int .i64 dn, .int .i64 n, .int .i64 m, .slice da ln dc, .int .u32 pat] 80 (0, 0)) := ⟨_, rfl⟩
  have h1 : RowAt w0 b (xs ++ e :: ys) [opT g0 O] w1 := h.add (w' := w1) (t := opT g0 O) (by rw [hw1]; exact (Keeps.refl _ _).alloc _) (show w1.heap[g0]? = some (.cells O.cells 80 (0, 0)) by rw [hw1, hOc]; exact heap_new_at hg0) (fun i hi => .inr (by simp [opT, blockThing] at hi; omega))
  have hcells : ∀ (wx : World) (zs : List En) (M : List Thing), RowAt w0 b zs M wx → opT g0 O ∈ M → wx.cell? ⟨g0, 0, none⟩ = some (.int .i64 6) ∧ wx.cell? ⟨g0, 2, none⟩ = some (.int .i64 n) ∧ wx.cell? ⟨g0, 3, none⟩ = some (.int .i64 m) ∧ wx.cell? ⟨g0, 4, none⟩ = some (.slice da ln dc) ∧ wx.cell? ⟨g0, 5, none⟩ = some (.int .u32 pat) := by
    intro wx zs M hx hm
    obtain ⟨c0, c1, c2, c3, c4, c5⟩ := OpV.cellsAt (hx.op hm)
    rw [hO] at c0 c1 c2 c3 c4 c5
    simp only [← hln] at c0 c1 c2 c3 c4 c5
    exact ⟨c0, c2, c3, c4, c5⟩
  have hdat : ∀ (wx : World) (zs : List En) (M : List Thing), RowAt w0 b zs M wx → BytesAt wx (.slice da ln dc) data := by
    intro wx zs M hx
    have := hx.dv HO.out
    rw [hO] at this
    rw [hln]
    exact this
  have HC := Lib.hid hcells
  have HD := Lib.hid hdat
  have CR := Lib.hid (lRoomy_any (hdat _ _ _ h1) (by rw [← hln]; omega))
  have HW1 := Lib.hid hw1
  have HG0 := Lib.hid hg0
  have H1 := Lib.hid h1
  have HE := Lib.hid hE
  have HLN := Lib.hid hln
  obtain ⟨p0, p2, p3, p4, p5⟩ := hcells _ _ _ h1 (by simp)
  clear hcells hdat hw1 h1 hO hOc hg0 h ho hE hln HO
  go_enter Try.func53, Try.ntmps53
  go_upto_region 1 with fail
  rw [← HW1.out, ← HG0.out]
  go_wp2_with fail
  refine CR.out.mono ?_
  rintro x w2 ⟨g, N, hN, rfl, hg, hO2, hk2⟩
  have h2 := H1.out.add hk2 (t := bytesThing (.slice (some ⟨g, 0, none⟩) N N) (roomed data)) hO2 (fun i hi => .inr (by simp [bytesThing, Value.ownBlock] at hi; omega))
  obtain ⟨p0, p2, p3, p4, p5⟩ := HC.out _ _ _ h2 (by simp)
  rw [← HLN.out] at hN
  have n1 : ln ≤ N := by omega
  have n2 : N ≤ 1048656 := by omega
  have H2 := Lib.hid h2
  have hpre : ∀ (wx : World), OwnB wx (.slice (some ⟨g, 0, none⟩) N N) (roomed data) → BytesAt wx (.slice (some ⟨g, 0, none⟩) ln N) data := fun wx hx => by
    have := ownB_bytes (hx.headPart (k := ln) n1)
    rw [show (roomed data).take ln = data from by rw [HLN.out]; exact roomed_take data] at this
    exact this
  have HP := Lib.hid hpre
  clear h2 hO2 hk2 hg hN CR H1 hpre
  have hs := HE.out.like.synced (by have := HE.out.log; omega)
  obtain ⟨sc, hsc⟩ : ∃ sc, sc = e.d.sy.1 := ⟨_, rfl⟩
  have CD := Lib.hid (dSy_any (H2.out.disk (e := e) (by simp)) (c := sc) (d' := e.d.sy.2) (by rw [hsc]))
  have t1 : (sc == sc) = true := by simp
  have HSC := Lib.hid hsc
  have HS := Lib.hid hs
  clear hsc hs
  go_wp2_with fail
  refine CD.out.mono ?_
  rintro x w3 ⟨rfl, hk3, F3, hD3, hf3⟩
  have h3 := H2.out.updD rfl hk3 hD3 hf3
  have CE := Lib.hid (rfSy_any (h3.ref (e := { e with d := e.d.sy.2, FD := F3 }) (by simp)) (by have := HE.out.log; simp only; omega) (c := sc) (r' := e.r.sy.2) (by rw [HSC.out, HS.out.1]))
  have H3 := Lib.hid h3
  clear h3 hk3 hD3 hf3 CD H2 p0 p2 p3 p4 p5
  go_wp2_with fail
  refine CE.out.mono ?_
  rintro x w4 ⟨rfl, hk4, F4, hR4, hf4⟩
  have HT := Lib.hid (H3.out.updR rfl hk4 hR4 hf4)
  have HEE : Hid (EnOk ⟨e.bd, e.d.sy.2, F3, e.br, e.r.sy.2, F4⟩ (L + 2)) := Lib.hid ⟨HS.out.2.1, by have := HE.out.n; have := HS.out.2.2.2; simp only; omega, by have := HE.out.log; have := HS.out.2.2.1; simp only; omega⟩
  clear hk4 hR4 hf4 CE H3
  obtain ⟨p0, p2, p3, p4, p5⟩ := HC.out _ _ _ HT.out (by simp)
  have CI := Lib.hid (lIntact_any (l := data) (HT.out.own (v := .slice (some ⟨g, 0, none⟩) N N) (l := roomed data) (by simp)) (HD.out _ _ _ HT.out) (by rw [← HLN.out]; omega))
  go_wp2_with fail
  refine CI.out.mono ?_
  rintro x w8 ⟨rfl, hk8⟩
  have CK := Lib.hid ((HT.out.keep hk8).kept (by rw [roomed_length, ← HLN.out]; omega))
  clear hk8 p0 p2 p3 p4 p5 CI HT
  go_wp2_with fail
  refine CK.out.mono ?_
  rintro x w9 ⟨rfl, h9⟩
  have H9 := Lib.hid (h9.sub (List.nil_sublist _))
  clear h9 CK
  go_wp2_with fail
  go_ret
  exact ⟨rfl, _, HEE.out, H9.out⟩
set_option maxRecDepth 100000 in
set_option maxHeartbeats 2000000 in
theorem acts_arm {w0 w : World} {b L : Nat} {xs ys : List En} {e : En} {o : OpV} (h : RowAt w0 b (xs ++ e :: ys) [] w) (ho : o.ok w0) (hE : EnOk e L) (hL : L ≤ 4294967000) (hk : o.kind = 7) :
    Calls Try.prog 53 #[.pointer (some ⟨b, 0, none⟩), .agg o.cells, .pointer (some ⟨e.bd, 0, none⟩), .pointer (some ⟨e.br, 0, none⟩)] w (ActPost w0 b xs ys (L + 2)) := by
  have HO := Lib.hid ho
  obtain ⟨da, dc, hdv, hdc, hdm⟩ := ho.data.form
  obtain ⟨kind, dn, n, m, dv, data, pat⟩ := o
  simp only at hdv
  subst hdv
  simp only at hk
  subst hk
  have hlen := ho.len
  have hnn := ho.nn
  have hmm := ho.mm
  have hpt := ho.pt
  simp only at hlen hnn hmm hpt
  unfold maxLen at hdm
  obtain ⟨ln, hln⟩ : ∃ ln, ln = data.length := ⟨_, rfl⟩
  obtain ⟨g0, hg0⟩ : ∃ g0, g0 = w.heap.size := ⟨_, rfl⟩
  rw [← hln] at hdc hlen
  obtain ⟨O, hO⟩ : ∃ O : OpV, O = ⟨7, dn, n, m, .slice da data.length dc, data, pat⟩ := ⟨_, rfl⟩
  rw [← hO] at HO
  have hOc : O.cells = #[.int .i64 7, .int .i64 dn, .int .i64 n, .int .i64 m, .slice da ln dc, .int .u32 pat] := by rw [hO, hln]; rfl
  rw [show OpV.cells ⟨7, dn, n, m, .slice da data.length dc, data, pat⟩ = #[.int .i64 7, .int .i64 dn, .int .i64 n, .int .i64 m, .slice da ln dc, .int .u32 pat] from by rw [hln]; rfl]
  obtain ⟨w1, hw1⟩ : ∃ w1, w1 = w.alloc (.cells #[.int .i64 7, .int .i64 dn, .int .i64 n, .int .i64 m, .slice da ln dc, .int .u32 pat] 80 (0, 0)) := ⟨_, rfl⟩
  have h1 : RowAt w0 b (xs ++ e :: ys) [opT g0 O] w1 := h.add (w' := w1) (t := opT g0 O) (by rw [hw1]; exact (Keeps.refl _ _).alloc _) (show w1.heap[g0]? = some (.cells O.cells 80 (0, 0)) by rw [hw1, hOc]; exact heap_new_at hg0) (fun i hi => .inr (by simp [opT, blockThing] at hi; omega))
  have hcells : ∀ (wx : World) (zs : List En) (M : List Thing), RowAt w0 b zs M wx → opT g0 O ∈ M → wx.cell? ⟨g0, 0, none⟩ = some (.int .i64 7) ∧ wx.cell? ⟨g0, 2, none⟩ = some (.int .i64 n) ∧ wx.cell? ⟨g0, 3, none⟩ = some (.int .i64 m) ∧ wx.cell? ⟨g0, 4, none⟩ = some (.slice da ln dc) ∧ wx.cell? ⟨g0, 5, none⟩ = some (.int .u32 pat) := by
    intro wx zs M hx hm
    obtain ⟨c0, c1, c2, c3, c4, c5⟩ := OpV.cellsAt (hx.op hm)
    rw [hO] at c0 c1 c2 c3 c4 c5
    simp only [← hln] at c0 c1 c2 c3 c4 c5
    exact ⟨c0, c2, c3, c4, c5⟩
  have hdat : ∀ (wx : World) (zs : List En) (M : List Thing), RowAt w0 b zs M wx → BytesAt wx (.slice da ln dc) data := by
    intro wx zs M hx
    have := hx.dv HO.out
    rw [hO] at this
    rw [hln]
    exact this
  have HC := Lib.hid hcells
  have HD := Lib.hid hdat
  have CR := Lib.hid (lRoomy_any (hdat _ _ _ h1) (by rw [← hln]; omega))
  have HW1 := Lib.hid hw1
  have HG0 := Lib.hid hg0
  have H1 := Lib.hid h1
  have HE := Lib.hid hE
  have HLN := Lib.hid hln
  obtain ⟨p0, p2, p3, p4, p5⟩ := hcells _ _ _ h1 (by simp)
  clear hcells hdat hw1 h1 hO hOc hg0 h ho hE hln HO
  go_enter Try.func53, Try.ntmps53
  go_upto_region 1 with fail
  rw [← HW1.out, ← HG0.out]
  go_wp2_with fail
  refine CR.out.mono ?_
  rintro x w2 ⟨g, N, hN, rfl, hg, hO2, hk2⟩
  have h2 := H1.out.add hk2 (t := bytesThing (.slice (some ⟨g, 0, none⟩) N N) (roomed data)) hO2 (fun i hi => .inr (by simp [bytesThing, Value.ownBlock] at hi; omega))
  obtain ⟨p0, p2, p3, p4, p5⟩ := HC.out _ _ _ h2 (by simp)
  rw [← HLN.out] at hN
  have n1 : ln ≤ N := by omega
  have n2 : N ≤ 1048656 := by omega
  have H2 := Lib.hid h2
  have hpre : ∀ (wx : World), OwnB wx (.slice (some ⟨g, 0, none⟩) N N) (roomed data) → BytesAt wx (.slice (some ⟨g, 0, none⟩) ln N) data := fun wx hx => by
    have := ownB_bytes (hx.headPart (k := ln) n1)
    rw [show (roomed data).take ln = data from by rw [HLN.out]; exact roomed_take data] at this
    exact this
  have HP := Lib.hid hpre
  clear h2 hO2 hk2 hg hN CR H1 hpre
  have hs := HE.out.like.armed n
  have CD := Lib.hid (dAr_any (H2.out.disk (e := e) (by simp)) n hnn.2 (d' := e.d.ar n) rfl)
  have HS := Lib.hid hs
  clear hs
  go_wp2_with fail
  refine CD.out.mono ?_
  rintro x w3 ⟨rfl, hk3, hD3⟩
  have h3 := H2.out.updD (F' := e.FD) rfl hk3 hD3 (From.refl _ _)
  have CE := Lib.hid (rfAr_any (h3.ref (e := { e with d := e.d.ar n, FD := e.FD }) (by simp)) n hnn.2 (r' := e.r.ar n) rfl)
  have H3 := Lib.hid h3
  obtain ⟨p0, p2, p3, p4, p5⟩ := HC.out _ _ _ h3 (by simp)
  clear h3 hk3 hD3 CD H2
  go_wp2_with fail
  refine CE.out.mono ?_
  rintro x w4 ⟨rfl, hk4, hR4⟩
  have HT := Lib.hid (H3.out.updR (F' := e.FR) rfl hk4 hR4 (From.refl _ _))
  have HEE : Hid (EnOk ⟨e.bd, e.d.ar n, e.FD, e.br, e.r.ar n, e.FR⟩ (L + 2)) := Lib.hid ⟨HS.out.1, by have := HE.out.n; have := HS.out.2.2; simp only; omega, by have := HE.out.log; have := HS.out.2.1; simp only; rw [this]; omega⟩
  clear hk4 hR4 CE H3 p0 p2 p3 p4 p5
  obtain ⟨p0, p2, p3, p4, p5⟩ := HC.out _ _ _ HT.out (by simp)
  have CI := Lib.hid (lIntact_any (l := data) (HT.out.own (v := .slice (some ⟨g, 0, none⟩) N N) (l := roomed data) (by simp)) (HD.out _ _ _ HT.out) (by rw [← HLN.out]; omega))
  go_wp2_with fail
  refine CI.out.mono ?_
  rintro x w8 ⟨rfl, hk8⟩
  have CK := Lib.hid ((HT.out.keep hk8).kept (by rw [roomed_length, ← HLN.out]; omega))
  clear hk8 p0 p2 p3 p4 p5 CI HT
  go_wp2_with fail
  refine CK.out.mono ?_
  rintro x w9 ⟨rfl, h9⟩
  have H9 := Lib.hid (h9.sub (List.nil_sublist _))
  clear h9 CK
  go_wp2_with fail
  go_ret
  exact ⟨rfl, _, HEE.out, H9.out⟩
set_option maxRecDepth 100000 in
set_option maxHeartbeats 2000000 in
theorem acts_claim {w0 w : World} {b L : Nat} {xs ys : List En} {e : En} {o : OpV} (h : RowAt w0 b (xs ++ e :: ys) [] w) (ho : o.ok w0) (hE : EnOk e L) (hL : L ≤ 4294967000) (hk : o.kind = 13) :
    Calls Try.prog 53 #[.pointer (some ⟨b, 0, none⟩), .agg o.cells, .pointer (some ⟨e.bd, 0, none⟩), .pointer (some ⟨e.br, 0, none⟩)] w (ActPost w0 b xs ys (L + 2)) := by
  have HO := Lib.hid ho
  obtain ⟨da, dc, hdv, hdc, hdm⟩ := ho.data.form
  obtain ⟨kind, dn, n, m, dv, data, pat⟩ := o
  simp only at hdv
  subst hdv
  simp only at hk
  subst hk
  have hlen := ho.len
  have hnn := ho.nn
  have hmm := ho.mm
  have hpt := ho.pt
  simp only at hlen hnn hmm hpt
  unfold maxLen at hdm
  obtain ⟨ln, hln⟩ : ∃ ln, ln = data.length := ⟨_, rfl⟩
  obtain ⟨g0, hg0⟩ : ∃ g0, g0 = w.heap.size := ⟨_, rfl⟩
  rw [← hln] at hdc hlen
  obtain ⟨O, hO⟩ : ∃ O : OpV, O = ⟨13, dn, n, m, .slice da data.length dc, data, pat⟩ := ⟨_, rfl⟩
  rw [← hO] at HO
  have hOc : O.cells = #[.int .i64 13, .int .i64 dn, .int .i64 n, .int .i64 m, .slice da ln dc, .int .u32 pat] := by rw [hO, hln]; rfl
  rw [show OpV.cells ⟨13, dn, n, m, .slice da data.length dc, data, pat⟩ = #[.int .i64 13, .int .i64 dn, .int .i64 n, .int .i64 m, .slice da ln dc, .int .u32 pat] from by rw [hln]; rfl]
  obtain ⟨w1, hw1⟩ : ∃ w1, w1 = w.alloc (.cells #[.int .i64 13, .int .i64 dn, .int .i64 n, .int .i64 m, .slice da ln dc, .int .u32 pat] 80 (0, 0)) := ⟨_, rfl⟩
  have h1 : RowAt w0 b (xs ++ e :: ys) [opT g0 O] w1 := h.add (w' := w1) (t := opT g0 O) (by rw [hw1]; exact (Keeps.refl _ _).alloc _) (show w1.heap[g0]? = some (.cells O.cells 80 (0, 0)) by rw [hw1, hOc]; exact heap_new_at hg0) (fun i hi => .inr (by simp [opT, blockThing] at hi; omega))
  have hcells : ∀ (wx : World) (zs : List En) (M : List Thing), RowAt w0 b zs M wx → opT g0 O ∈ M → wx.cell? ⟨g0, 0, none⟩ = some (.int .i64 13) ∧ wx.cell? ⟨g0, 2, none⟩ = some (.int .i64 n) ∧ wx.cell? ⟨g0, 3, none⟩ = some (.int .i64 m) ∧ wx.cell? ⟨g0, 4, none⟩ = some (.slice da ln dc) ∧ wx.cell? ⟨g0, 5, none⟩ = some (.int .u32 pat) := by
    intro wx zs M hx hm
    obtain ⟨c0, c1, c2, c3, c4, c5⟩ := OpV.cellsAt (hx.op hm)
    rw [hO] at c0 c1 c2 c3 c4 c5
    simp only [← hln] at c0 c1 c2 c3 c4 c5
    exact ⟨c0, c2, c3, c4, c5⟩
  have hdat : ∀ (wx : World) (zs : List En) (M : List Thing), RowAt w0 b zs M wx → BytesAt wx (.slice da ln dc) data := by
    intro wx zs M hx
    have := hx.dv HO.out
    rw [hO] at this
    rw [hln]
    exact this
  have HC := Lib.hid hcells
  have HD := Lib.hid hdat
  have CR := Lib.hid (lRoomy_any (hdat _ _ _ h1) (by rw [← hln]; omega))
  have HW1 := Lib.hid hw1
  have HG0 := Lib.hid hg0
  have H1 := Lib.hid h1
  have HE := Lib.hid hE
  have HLN := Lib.hid hln
  obtain ⟨p0, p2, p3, p4, p5⟩ := hcells _ _ _ h1 (by simp)
  clear hcells hdat hw1 h1 hO hOc hg0 h ho hE hln HO
  go_enter Try.func53, Try.ntmps53
  go_upto_region 1 with fail
  rw [← HW1.out, ← HG0.out]
  go_wp2_with fail
  refine CR.out.mono ?_
  rintro x w2 ⟨g, N, hN, rfl, hg, hO2, hk2⟩
  have h2 := H1.out.add hk2 (t := bytesThing (.slice (some ⟨g, 0, none⟩) N N) (roomed data)) hO2 (fun i hi => .inr (by simp [bytesThing, Value.ownBlock] at hi; omega))
  obtain ⟨p0, p2, p3, p4, p5⟩ := HC.out _ _ _ h2 (by simp)
  rw [← HLN.out] at hN
  have n1 : ln ≤ N := by omega
  have n2 : N ≤ 1048656 := by omega
  have H2 := Lib.hid h2
  have hpre : ∀ (wx : World), OwnB wx (.slice (some ⟨g, 0, none⟩) N N) (roomed data) → BytesAt wx (.slice (some ⟨g, 0, none⟩) ln N) data := fun wx hx => by
    have := ownB_bytes (hx.headPart (k := ln) n1)
    rw [show (roomed data).take ln = data from by rw [HLN.out]; exact roomed_take data] at this
    exact this
  have HP := Lib.hid hpre
  clear h2 hO2 hk2 hg hN CR H1 hpre
  have hs := HE.out.like.claimed
  obtain ⟨sc, hsc⟩ : ∃ sc, sc = wrap64 (e.d.epoch + 1) := ⟨_, rfl⟩
  have CD := Lib.hid (dCl_any (H2.out.disk (e := e) (by simp)) hsc)
  have t1 : (sc == sc) = true := by simp
  have HSC := Lib.hid hsc
  have HS := Lib.hid hs
  clear hsc hs
  go_wp2_with fail
  refine CD.out.mono ?_
  rintro x w3 ⟨rfl, hk3, hD3⟩
  have h3 := H2.out.updD (F' := e.FD) rfl hk3 hD3 (From.refl _ _)
  have ce := rfClaim_any (h3.ref (e := { e with d := { e.d with epoch := sc }, FD := e.FD }) (by simp))
  simp only at ce
  rw [← HS.out.1, ← HSC.out] at ce
  have CE := Lib.hid ce
  have H3 := Lib.hid h3
  clear h3 hk3 hD3 CD H2 p0 p2 p3 p4 p5 ce
  go_wp2_with fail
  refine CE.out.mono ?_
  rintro x w4 ⟨rfl, hk4, hR4⟩
  have HT := Lib.hid (H3.out.updR (F' := e.FR) rfl hk4 hR4 (From.refl _ _))
  have HEE : Hid (EnOk ⟨e.bd, { e.d with epoch := sc }, e.FD, e.br, { e.r with ages := sc }, e.FR⟩ (L + 2)) := Lib.hid ⟨by have h5 := HS.out.2; rw [← HS.out.1, ← HSC.out] at h5; exact h5, HE.out.n, by have := HE.out.log; simp only; omega⟩
  clear hk4 hR4 CE H3
  obtain ⟨p0, p2, p3, p4, p5⟩ := HC.out _ _ _ HT.out (by simp)
  have CI := Lib.hid (lIntact_any (l := data) (HT.out.own (v := .slice (some ⟨g, 0, none⟩) N N) (l := roomed data) (by simp)) (HD.out _ _ _ HT.out) (by rw [← HLN.out]; omega))
  go_wp2_with fail
  refine CI.out.mono ?_
  rintro x w8 ⟨rfl, hk8⟩
  have CK := Lib.hid ((HT.out.keep hk8).kept (by rw [roomed_length, ← HLN.out]; omega))
  clear hk8 p0 p2 p3 p4 p5 CI HT
  go_wp2_with fail
  refine CK.out.mono ?_
  rintro x w9 ⟨rfl, h9⟩
  have H9 := Lib.hid (h9.sub (List.nil_sublist _))
  clear h9 CK
  go_wp2_with fail
  go_ret
  exact ⟨rfl, _, HEE.out, H9.out⟩
set_option maxRecDepth 100000 in
set_option maxHeartbeats 2000000 in
theorem acts_crash {w0 w : World} {b L : Nat} {xs ys : List En} {e : En} {o : OpV} (h : RowAt w0 b (xs ++ e :: ys) [] w) (ho : o.ok w0) (hE : EnOk e L) (hL : L ≤ 4294967000) (hk : o.kind = 8) :
    Calls Try.prog 53 #[.pointer (some ⟨b, 0, none⟩), .agg o.cells, .pointer (some ⟨e.bd, 0, none⟩), .pointer (some ⟨e.br, 0, none⟩)] w (ActPost w0 b xs ys (L + 2)) := by
  have HO := Lib.hid ho
  obtain ⟨da, dc, hdv, hdc, hdm⟩ := ho.data.form
  obtain ⟨kind, dn, n, m, dv, data, pat⟩ := o
  simp only at hdv
  subst hdv
  simp only at hk
  subst hk
  have hlen := ho.len
  have hnn := ho.nn
  have hmm := ho.mm
  have hpt := ho.pt
  simp only at hlen hnn hmm hpt
  unfold maxLen at hdm
  obtain ⟨ln, hln⟩ : ∃ ln, ln = data.length := ⟨_, rfl⟩
  obtain ⟨g0, hg0⟩ : ∃ g0, g0 = w.heap.size := ⟨_, rfl⟩
  rw [← hln] at hdc hlen
  obtain ⟨O, hO⟩ : ∃ O : OpV, O = ⟨8, dn, n, m, .slice da data.length dc, data, pat⟩ := ⟨_, rfl⟩
  rw [← hO] at HO
  have hOc : O.cells = #[.int .i64 8, .int .i64 dn, .int .i64 n, .int .i64 m, .slice da ln dc, .int .u32 pat] := by rw [hO, hln]; rfl
  rw [show OpV.cells ⟨8, dn, n, m, .slice da data.length dc, data, pat⟩ = #[.int .i64 8, .int .i64 dn, .int .i64 n, .int .i64 m, .slice da ln dc, .int .u32 pat] from by rw [hln]; rfl]
  obtain ⟨w1, hw1⟩ : ∃ w1, w1 = w.alloc (.cells #[.int .i64 8, .int .i64 dn, .int .i64 n, .int .i64 m, .slice da ln dc, .int .u32 pat] 80 (0, 0)) := ⟨_, rfl⟩
  have h1 : RowAt w0 b (xs ++ e :: ys) [opT g0 O] w1 := h.add (w' := w1) (t := opT g0 O) (by rw [hw1]; exact (Keeps.refl _ _).alloc _) (show w1.heap[g0]? = some (.cells O.cells 80 (0, 0)) by rw [hw1, hOc]; exact heap_new_at hg0) (fun i hi => .inr (by simp [opT, blockThing] at hi; omega))
  have hcells : ∀ (wx : World) (zs : List En) (M : List Thing), RowAt w0 b zs M wx → opT g0 O ∈ M → wx.cell? ⟨g0, 0, none⟩ = some (.int .i64 8) ∧ wx.cell? ⟨g0, 2, none⟩ = some (.int .i64 n) ∧ wx.cell? ⟨g0, 3, none⟩ = some (.int .i64 m) ∧ wx.cell? ⟨g0, 4, none⟩ = some (.slice da ln dc) ∧ wx.cell? ⟨g0, 5, none⟩ = some (.int .u32 pat) := by
    intro wx zs M hx hm
    obtain ⟨c0, c1, c2, c3, c4, c5⟩ := OpV.cellsAt (hx.op hm)
    rw [hO] at c0 c1 c2 c3 c4 c5
    simp only [← hln] at c0 c1 c2 c3 c4 c5
    exact ⟨c0, c2, c3, c4, c5⟩
  have hdat : ∀ (wx : World) (zs : List En) (M : List Thing), RowAt w0 b zs M wx → BytesAt wx (.slice da ln dc) data := by
    intro wx zs M hx
    have := hx.dv HO.out
    rw [hO] at this
    rw [hln]
    exact this
  have HC := Lib.hid hcells
  have HD := Lib.hid hdat
  have CR := Lib.hid (lRoomy_any (hdat _ _ _ h1) (by rw [← hln]; omega))
  have HW1 := Lib.hid hw1
  have HG0 := Lib.hid hg0
  have H1 := Lib.hid h1
  have HE := Lib.hid hE
  have HLN := Lib.hid hln
  obtain ⟨p0, p2, p3, p4, p5⟩ := hcells _ _ _ h1 (by simp)
  clear hcells hdat hw1 h1 hO hOc hg0 h ho hE hln HO
  go_enter Try.func53, Try.ntmps53
  go_upto_region 1 with fail
  rw [← HW1.out, ← HG0.out]
  go_wp2_with fail
  refine CR.out.mono ?_
  rintro x w2 ⟨g, N, hN, rfl, hg, hO2, hk2⟩
  have h2 := H1.out.add hk2 (t := bytesThing (.slice (some ⟨g, 0, none⟩) N N) (roomed data)) hO2 (fun i hi => .inr (by simp [bytesThing, Value.ownBlock] at hi; omega))
  obtain ⟨p0, p2, p3, p4, p5⟩ := HC.out _ _ _ h2 (by simp)
  rw [← HLN.out] at hN
  have n1 : ln ≤ N := by omega
  have n2 : N ≤ 1048656 := by omega
  have H2 := Lib.hid h2
  have hpre : ∀ (wx : World), OwnB wx (.slice (some ⟨g, 0, none⟩) N N) (roomed data) → BytesAt wx (.slice (some ⟨g, 0, none⟩) ln N) data := fun wx hx => by
    have := ownB_bytes (hx.headPart (k := ln) n1)
    rw [show (roomed data).take ln = data from by rw [HLN.out]; exact roomed_take data] at this
    exact this
  have HP := Lib.hid hpre
  clear h2 hO2 hk2 hg hN CR H1 hpre
  have hs := HE.out.like.crashed (F := data) (by rw [← HLN.out]; omega)
  obtain ⟨sc, hsc⟩ : ∃ sc, sc = e.d.q.length := ⟨_, rfl⟩
  have hap := H2.out.apartD (e := e) (by simp) (t := bytesThing (.slice (some ⟨g, 0, none⟩) N N) (roomed data)) (by simp)
  have t1 : ((sc : Int) == (sc : Int)) = true := by simp
  have HSC := Lib.hid hsc
  have HS := Lib.hid hs
  have HAPT := Lib.hid (show ∀ k, (Value.slice (some (⟨g, 0, none⟩ : Addr)) ln N).elemBlock = some k → k ∉ e.FD from fun k hk' => hap k (by
    have this := elemBlock_own hk'
    have e1 : g = k := by simpa [Value.ownBlock] using this
    simp [bytesThing, Value.ownBlock, e1]))
  clear hsc hs hap
  go_upto_region 22 with fail
  refine rl_start (fun wy => wy.cell? ⟨g0, 4, none⟩ = some (.slice da ln dc)) 8 (by kernel_rfl) ?_ (fun hHeld => ?_)
  · exact p4
  refine' rl_take (i := 0) (v := _) rfl (by kernel_rfl) (by kernel_rfl) (by kernel_rfl) (by kernel_rfl) (fun _ _ _ h => h) (Or.inl ⟨by rfl, ?_⟩) (by assumption) ?_
  rotate_left 1
  · (intro w0 hSw; (try dsimp only at hSw); go_split_ands; go_simp; (try with_reducible rfl))
  try simp only [Act.put, List.setIfInBounds_toArray, List.set_cons_zero, List.set_cons_succ, List.getElem_toArray, List.getElem_cons_zero, List.getElem_cons_succ]
  refine' rl_take (i := 1) (v := _) rfl (by kernel_rfl) (by kernel_rfl) (by kernel_rfl) (by kernel_rfl) (fun _ _ _ h => h) (Or.inl ⟨by rfl, ?_⟩) (by assumption) ?_
  rotate_left 1
  · (intro w0 hSw; (try dsimp only at hSw); go_split_ands; go_simp; (try with_reducible rfl))
  try simp only [Act.put, List.setIfInBounds_toArray, List.set_cons_zero, List.set_cons_succ, List.getElem_toArray, List.getElem_cons_zero, List.getElem_cons_succ]
  refine' rl_take (i := 3) (v := _) rfl (by kernel_rfl) (by kernel_rfl) (by kernel_rfl) (by kernel_rfl) (fun _ _ _ h => h) (Or.inl ⟨by rfl, ?_⟩) (by assumption) ?_
  rotate_left 1
  · (intro w0 hSw; (try dsimp only at hSw); go_split_ands; go_simp; (try with_reducible rfl))
  try simp only [Act.put, List.setIfInBounds_toArray, List.set_cons_zero, List.set_cons_succ, List.getElem_toArray, List.getElem_cons_zero, List.getElem_cons_succ]
  refine' rl_take (i := 4) (v := _) rfl (by kernel_rfl) (by kernel_rfl) (by kernel_rfl) (by kernel_rfl) (fun _ _ _ h => h) (Or.inl ⟨by rfl, ?_⟩) (by assumption) ?_
  rotate_left 1
  · (intro w0 hSw; (try dsimp only at hSw); go_split_ands; go_simp; (try with_reducible rfl))
  try simp only [Act.put, List.setIfInBounds_toArray, List.set_cons_zero, List.set_cons_succ, List.getElem_toArray, List.getElem_cons_zero, List.getElem_cons_succ]
  refine' rl_take (i := 5) (v := _) rfl (by kernel_rfl) (by kernel_rfl) (by kernel_rfl) (by kernel_rfl) (fun _ _ _ h => h) (Or.inl ⟨by rfl, ?_⟩) (by assumption) ?_
  rotate_left 1
  · (intro w0 hSw; (try dsimp only at hSw); go_split_ands; go_simp; (try with_reducible rfl))
  try simp only [Act.put, List.setIfInBounds_toArray, List.set_cons_zero, List.set_cons_succ, List.getElem_toArray, List.getElem_cons_zero, List.getElem_cons_succ]
  have CD := Lib.hid (crash_thing (w := w2.drew) (DiskAt.keep (H2.out.disk (e := e) (by simp)) (fun _ _ => rfl)) ((HP.out _ (H2.out.own (by simp))).keeps (F := []) (Keeps.refl _ _).drew (by simp)) HAPT.out HSC.out.symm)
  refine rl_act (i := 2) (by kernel_rfl) rfl (fun K hK => ?_)
  go_simp
  refine CD.out.mono ?_
  rintro x w3 ⟨rfl, hk3, F3, hD3, hf3⟩
  have h3 := (H2.out.keep (Keeps.refl _ w2).drew).updD rfl hk3 hD3 hf3
  have CE := Lib.hid (rfCr_any (h3.ref (e := { e with d := e.d.crash data, FD := F3 }) (by simp)) HE.out.like (HD.out _ _ _ h3) (by rw [← HLN.out]; omega) (by have := HE.out.log; simp only; omega) HSC.out.symm)
  have H3 := Lib.hid h3
  obtain ⟨p0, p2, p3, p4', p5⟩ := HC.out _ _ _ h3 (by simp)
  clear h3 hk3 hD3 hf3 CD H2
  refine hK.out _ _ ?_ (fun hHeld => ?_)
  · exact p4'
  clear hK K
  try simp only [Act.put, List.setIfInBounds_toArray, List.set_cons_zero, List.set_cons_succ, List.getElem_toArray, List.getElem_cons_zero, List.getElem_cons_succ]
  refine rl_act (i := 6) (by kernel_rfl) rfl (fun K hK => ?_)
  go_simp
  refine CE.out.mono ?_
  rintro x w4 ⟨rfl, hk4, F4, hR4, hf4⟩
  have HT := Lib.hid (H3.out.updR rfl hk4 hR4 hf4)
  have HEE : Hid (EnOk ⟨e.bd, e.d.crash data, F3, e.br, e.r.cr data, F4⟩ (L + 2)) := Lib.hid ⟨HS.out.1, by have := HE.out.n; have := HS.out.2.2; simp only; omega, by have := HE.out.log; have := HS.out.2.1; simp only; omega⟩
  obtain ⟨p0, p2, p3, p4, p5⟩ := HC.out _ _ _ HT.out (by simp)
  clear hk4 hR4 hf4 CE H3
  refine hK.out _ _ ?_ (fun hHeld => ?_)
  · exact p4
  clear hK K
  try simp only [Act.put, List.setIfInBounds_toArray, List.set_cons_zero, List.set_cons_succ, List.getElem_toArray, List.getElem_cons_zero, List.getElem_cons_succ]
  refine' rl_take (i := 7) (v := _) rfl (by kernel_rfl) (by kernel_rfl) (by kernel_rfl) (by kernel_rfl) (fun _ _ _ h => h) (Or.inl ⟨by rfl, ?_⟩) (by assumption) ?_
  rotate_left 1
  · (intro w0 hSw; (try dsimp only at hSw); go_split_ands; go_simp; (try with_reducible rfl))
  try simp only [Act.put, List.setIfInBounds_toArray, List.set_cons_zero, List.set_cons_succ, List.getElem_toArray, List.getElem_cons_zero, List.getElem_cons_succ]
  refine rl_last (by kernel_rfl) (by kernel_rfl) rfl (fun K hK => ?_)
  go_simp
  refine hK.out _ _ ?_
  clear hK K
  try simp only [Act.put, List.setIfInBounds_toArray, List.set_cons_zero, List.set_cons_succ, List.getElem_toArray, List.getElem_cons_zero, List.getElem_cons_succ]
  clear hHeld p0 p2 p3 p4 p5
  obtain ⟨p0, p2, p3, p4, p5⟩ := HC.out _ _ _ HT.out (by simp)
  have CI := Lib.hid (lIntact_any (l := data) (HT.out.own (v := .slice (some ⟨g, 0, none⟩) N N) (l := roomed data) (by simp)) (HD.out _ _ _ HT.out) (by rw [← HLN.out]; omega))
  go_wp2_with fail
  refine CI.out.mono ?_
  rintro x w8 ⟨rfl, hk8⟩
  have CK := Lib.hid ((HT.out.keep hk8).kept (by rw [roomed_length, ← HLN.out]; omega))
  clear hk8 p0 p2 p3 p4 p5 CI HT
  go_wp2_with fail
  refine CK.out.mono ?_
  rintro x w9 ⟨rfl, h9⟩
  have H9 := Lib.hid (h9.sub (List.nil_sublist _))
  clear h9 CK
  go_wp2_with fail
  go_ret
  exact ⟨rfl, _, HEE.out, H9.out⟩
set_option maxRecDepth 100000 in
set_option maxHeartbeats 2000000 in
theorem acts_flip {w0 w : World} {b L : Nat} {xs ys : List En} {e : En} {o : OpV} (h : RowAt w0 b (xs ++ e :: ys) [] w) (ho : o.ok w0) (hE : EnOk e L) (hL : L ≤ 4294967000) (hk : o.kind = 9) :
    Calls Try.prog 53 #[.pointer (some ⟨b, 0, none⟩), .agg o.cells, .pointer (some ⟨e.bd, 0, none⟩), .pointer (some ⟨e.br, 0, none⟩)] w (ActPost w0 b xs ys (L + 2)) := by
  have HO := Lib.hid ho
  obtain ⟨da, dc, hdv, hdc, hdm⟩ := ho.data.form
  obtain ⟨kind, dn, n, m, dv, data, pat⟩ := o
  simp only at hdv
  subst hdv
  simp only at hk
  subst hk
  have hlen := ho.len
  have hnn := ho.nn
  have hmm := ho.mm
  have hpt := ho.pt
  simp only at hlen hnn hmm hpt
  unfold maxLen at hdm
  obtain ⟨ln, hln⟩ : ∃ ln, ln = data.length := ⟨_, rfl⟩
  obtain ⟨g0, hg0⟩ : ∃ g0, g0 = w.heap.size := ⟨_, rfl⟩
  rw [← hln] at hdc hlen
  obtain ⟨O, hO⟩ : ∃ O : OpV, O = ⟨9, dn, n, m, .slice da data.length dc, data, pat⟩ := ⟨_, rfl⟩
  rw [← hO] at HO
  have hOc : O.cells = #[.int .i64 9, .int .i64 dn, .int .i64 n, .int .i64 m, .slice da ln dc, .int .u32 pat] := by rw [hO, hln]; rfl
  rw [show OpV.cells ⟨9, dn, n, m, .slice da data.length dc, data, pat⟩ = #[.int .i64 9, .int .i64 dn, .int .i64 n, .int .i64 m, .slice da ln dc, .int .u32 pat] from by rw [hln]; rfl]
  obtain ⟨w1, hw1⟩ : ∃ w1, w1 = w.alloc (.cells #[.int .i64 9, .int .i64 dn, .int .i64 n, .int .i64 m, .slice da ln dc, .int .u32 pat] 80 (0, 0)) := ⟨_, rfl⟩
  have h1 : RowAt w0 b (xs ++ e :: ys) [opT g0 O] w1 := h.add (w' := w1) (t := opT g0 O) (by rw [hw1]; exact (Keeps.refl _ _).alloc _) (show w1.heap[g0]? = some (.cells O.cells 80 (0, 0)) by rw [hw1, hOc]; exact heap_new_at hg0) (fun i hi => .inr (by simp [opT, blockThing] at hi; omega))
  have hcells : ∀ (wx : World) (zs : List En) (M : List Thing), RowAt w0 b zs M wx → opT g0 O ∈ M → wx.cell? ⟨g0, 0, none⟩ = some (.int .i64 9) ∧ wx.cell? ⟨g0, 2, none⟩ = some (.int .i64 n) ∧ wx.cell? ⟨g0, 3, none⟩ = some (.int .i64 m) ∧ wx.cell? ⟨g0, 4, none⟩ = some (.slice da ln dc) ∧ wx.cell? ⟨g0, 5, none⟩ = some (.int .u32 pat) := by
    intro wx zs M hx hm
    obtain ⟨c0, c1, c2, c3, c4, c5⟩ := OpV.cellsAt (hx.op hm)
    rw [hO] at c0 c1 c2 c3 c4 c5
    simp only [← hln] at c0 c1 c2 c3 c4 c5
    exact ⟨c0, c2, c3, c4, c5⟩
  have hdat : ∀ (wx : World) (zs : List En) (M : List Thing), RowAt w0 b zs M wx → BytesAt wx (.slice da ln dc) data := by
    intro wx zs M hx
    have := hx.dv HO.out
    rw [hO] at this
    rw [hln]
    exact this
  have HC := Lib.hid hcells
  have HD := Lib.hid hdat
  have CR := Lib.hid (lRoomy_any (hdat _ _ _ h1) (by rw [← hln]; omega))
  have HW1 := Lib.hid hw1
  have HG0 := Lib.hid hg0
  have H1 := Lib.hid h1
  have HE := Lib.hid hE
  have HLN := Lib.hid hln
  obtain ⟨p0, p2, p3, p4, p5⟩ := hcells _ _ _ h1 (by simp)
  clear hcells hdat hw1 h1 hO hOc hg0 h ho hE hln HO
  go_enter Try.func53, Try.ntmps53
  go_upto_region 1 with fail
  rw [← HW1.out, ← HG0.out]
  go_wp2_with fail
  refine CR.out.mono ?_
  rintro x w2 ⟨g, N, hN, rfl, hg, hO2, hk2⟩
  have h2 := H1.out.add hk2 (t := bytesThing (.slice (some ⟨g, 0, none⟩) N N) (roomed data)) hO2 (fun i hi => .inr (by simp [bytesThing, Value.ownBlock] at hi; omega))
  obtain ⟨p0, p2, p3, p4, p5⟩ := HC.out _ _ _ h2 (by simp)
  rw [← HLN.out] at hN
  have n1 : ln ≤ N := by omega
  have n2 : N ≤ 1048656 := by omega
  have H2 := Lib.hid h2
  have hpre : ∀ (wx : World), OwnB wx (.slice (some ⟨g, 0, none⟩) N N) (roomed data) → BytesAt wx (.slice (some ⟨g, 0, none⟩) ln N) data := fun wx hx => by
    have := ownB_bytes (hx.headPart (k := ln) n1)
    rw [show (roomed data).take ln = data from by rw [HLN.out]; exact roomed_take data] at this
    exact this
  have HP := Lib.hid hpre
  clear h2 hO2 hk2 hg hN CR H1 hpre
  have hs := HE.out.like.flipped n m hpt
  obtain ⟨sc, hsc⟩ : ∃ sc, sc = (e.d.fl n m pat).1 := ⟨_, rfl⟩
  have t1 : (sc == sc) = true := by simp
  have HSC := Lib.hid hsc
  have HS := Lib.hid hs
  clear hsc hs
  go_upto_region 24 with fail
  refine rl_start (fun wy => wy.cell? ⟨g0, 2, none⟩ = some (.int .i64 n) ∧ wy.cell? ⟨g0, 3, none⟩ = some (.int .i64 m) ∧ wy.cell? ⟨g0, 5, none⟩ = some (.int .u32 pat)) 17 (by kernel_rfl) ?_ (fun hHeld => ?_)
  · exact ⟨p2, p3, p5⟩
  refine' rl_take (i := 0) (v := _) rfl (by kernel_rfl) (by kernel_rfl) (by kernel_rfl) (by kernel_rfl) (fun _ _ _ h => h) (Or.inl ⟨by rfl, ?_⟩) (by assumption) ?_
  rotate_left 1
  · (intro w0 hSw; (try dsimp only at hSw); go_split_ands; go_simp; (try with_reducible rfl))
  try simp only [Act.put, List.setIfInBounds_toArray, List.set_cons_zero, List.set_cons_succ, List.getElem_toArray, List.getElem_cons_zero, List.getElem_cons_succ]
  refine' rl_take (i := 1) (v := _) rfl (by kernel_rfl) (by kernel_rfl) (by kernel_rfl) (by kernel_rfl) (fun _ _ _ h => h) (Or.inl ⟨by rfl, ?_⟩) (by assumption) ?_
  rotate_left 1
  · (intro w0 hSw; (try dsimp only at hSw); go_split_ands; go_simp; (try with_reducible rfl))
  try simp only [Act.put, List.setIfInBounds_toArray, List.set_cons_zero, List.set_cons_succ, List.getElem_toArray, List.getElem_cons_zero, List.getElem_cons_succ]
  refine' rl_take (i := 2) (v := _) rfl (by kernel_rfl) (by kernel_rfl) (by kernel_rfl) (by kernel_rfl) (fun _ _ _ h => h) (Or.inl ⟨by rfl, ?_⟩) (by assumption) ?_
  rotate_left 1
  · (intro w0 hSw; (try dsimp only at hSw); go_split_ands; go_simp; (try with_reducible rfl))
  try simp only [Act.put, List.setIfInBounds_toArray, List.set_cons_zero, List.set_cons_succ, List.getElem_toArray, List.getElem_cons_zero, List.getElem_cons_succ]
  refine' rl_take (i := 3) (v := _) rfl (by kernel_rfl) (by kernel_rfl) (by kernel_rfl) (by kernel_rfl) (fun _ _ _ h => h) (Or.inl ⟨by rfl, ?_⟩) (by assumption) ?_
  rotate_left 1
  · (intro w0 hSw; (try dsimp only at hSw); go_split_ands; go_simp; (try with_reducible rfl))
  try simp only [Act.put, List.setIfInBounds_toArray, List.set_cons_zero, List.set_cons_succ, List.getElem_toArray, List.getElem_cons_zero, List.getElem_cons_succ]
  refine' rl_take (i := 4) (v := _) rfl (by kernel_rfl) (by kernel_rfl) (by kernel_rfl) (by kernel_rfl) (fun _ _ _ h => h) (Or.inl ⟨by rfl, ?_⟩) (by assumption) ?_
  rotate_left 1
  · (intro w0 hSw; (try dsimp only at hSw); go_split_ands; go_simp; (try with_reducible rfl))
  try simp only [Act.put, List.setIfInBounds_toArray, List.set_cons_zero, List.set_cons_succ, List.getElem_toArray, List.getElem_cons_zero, List.getElem_cons_succ]
  refine' rl_take (i := 5) (v := _) rfl (by kernel_rfl) (by kernel_rfl) (by kernel_rfl) (by kernel_rfl) (fun _ _ _ h => h) (Or.inl ⟨by rfl, ?_⟩) (by assumption) ?_
  rotate_left 1
  · (intro w0 hSw; (try dsimp only at hSw); go_split_ands; go_simp; (try with_reducible rfl))
  try simp only [Act.put, List.setIfInBounds_toArray, List.set_cons_zero, List.set_cons_succ, List.getElem_toArray, List.getElem_cons_zero, List.getElem_cons_succ]
  refine' rl_take (i := 6) (v := _) rfl (by kernel_rfl) (by kernel_rfl) (by kernel_rfl) (by kernel_rfl) (fun _ _ _ h => h) (Or.inl ⟨by rfl, ?_⟩) (by assumption) ?_
  rotate_left 1
  · (intro w0 hSw; (try dsimp only at hSw); go_split_ands; go_simp; (try with_reducible rfl))
  try simp only [Act.put, List.setIfInBounds_toArray, List.set_cons_zero, List.set_cons_succ, List.getElem_toArray, List.getElem_cons_zero, List.getElem_cons_succ]
  refine' rl_take (i := 8) (v := _) rfl (by kernel_rfl) (by kernel_rfl) (by kernel_rfl) (by kernel_rfl) (fun _ _ _ h => h) (Or.inl ⟨by rfl, ?_⟩) (by assumption) ?_
  rotate_left 1
  · (intro w0 hSw; (try dsimp only at hSw); go_split_ands; go_simp; (try with_reducible rfl))
  try simp only [Act.put, List.setIfInBounds_toArray, List.set_cons_zero, List.set_cons_succ, List.getElem_toArray, List.getElem_cons_zero, List.getElem_cons_succ]
  refine' rl_take (i := 9) (v := _) rfl (by kernel_rfl) (by kernel_rfl) (by kernel_rfl) (by kernel_rfl) (fun _ _ _ h => h) (Or.inl ⟨by rfl, ?_⟩) (by assumption) ?_
  rotate_left 1
  · (intro w0 hSw; (try dsimp only at hSw); go_split_ands; go_simp; (try with_reducible rfl))
  try simp only [Act.put, List.setIfInBounds_toArray, List.set_cons_zero, List.set_cons_succ, List.getElem_toArray, List.getElem_cons_zero, List.getElem_cons_succ]
  refine' rl_take (i := 10) (v := _) rfl (by kernel_rfl) (by kernel_rfl) (by kernel_rfl) (by kernel_rfl) (fun _ _ _ h => h) (Or.inl ⟨by rfl, ?_⟩) (by assumption) ?_
  rotate_left 1
  · (intro w0 hSw; (try dsimp only at hSw); go_split_ands; go_simp; (try with_reducible rfl))
  try simp only [Act.put, List.setIfInBounds_toArray, List.set_cons_zero, List.set_cons_succ, List.getElem_toArray, List.getElem_cons_zero, List.getElem_cons_succ]
  refine' rl_take (i := 11) (v := _) rfl (by kernel_rfl) (by kernel_rfl) (by kernel_rfl) (by kernel_rfl) (fun _ _ _ h => h) (Or.inl ⟨by rfl, ?_⟩) (by assumption) ?_
  rotate_left 1
  · (intro w0 hSw; (try dsimp only at hSw); go_split_ands; go_simp; (try with_reducible rfl))
  try simp only [Act.put, List.setIfInBounds_toArray, List.set_cons_zero, List.set_cons_succ, List.getElem_toArray, List.getElem_cons_zero, List.getElem_cons_succ]
  refine' rl_take (i := 12) (v := _) rfl (by kernel_rfl) (by kernel_rfl) (by kernel_rfl) (by kernel_rfl) (fun _ _ _ h => h) (Or.inl ⟨by rfl, ?_⟩) (by assumption) ?_
  rotate_left 1
  · (intro w0 hSw; (try dsimp only at hSw); go_split_ands; go_simp; (try with_reducible rfl))
  try simp only [Act.put, List.setIfInBounds_toArray, List.set_cons_zero, List.set_cons_succ, List.getElem_toArray, List.getElem_cons_zero, List.getElem_cons_succ]
  refine' rl_take (i := 13) (v := _) rfl (by kernel_rfl) (by kernel_rfl) (by kernel_rfl) (by kernel_rfl) (fun _ _ _ h => h) (Or.inl ⟨by rfl, ?_⟩) (by assumption) ?_
  rotate_left 1
  · (intro w0 hSw; (try dsimp only at hSw); go_split_ands; go_simp; (try with_reducible rfl))
  try simp only [Act.put, List.setIfInBounds_toArray, List.set_cons_zero, List.set_cons_succ, List.getElem_toArray, List.getElem_cons_zero, List.getElem_cons_succ]
  refine' rl_take (i := 14) (v := _) rfl (by kernel_rfl) (by kernel_rfl) (by kernel_rfl) (by kernel_rfl) (fun _ _ _ h => h) (Or.inl ⟨by rfl, ?_⟩) (by assumption) ?_
  rotate_left 1
  · (intro w0 hSw; (try dsimp only at hSw); go_split_ands; go_simp; (try with_reducible rfl))
  try simp only [Act.put, List.setIfInBounds_toArray, List.set_cons_zero, List.set_cons_succ, List.getElem_toArray, List.getElem_cons_zero, List.getElem_cons_succ]
  have CD := Lib.hid (dFl_any (w := w2.drew) (DiskAt.keep (H2.out.disk (e := e) (by simp)) (fun _ _ => rfl)) n m pat hpt (c := sc) (d' := (e.d.fl n m pat).2) (by rw [HSC.out]))
  refine rl_act (i := 7) (by kernel_rfl) rfl (fun K hK => ?_)
  go_simp
  refine CD.out.mono ?_
  rintro x w3 ⟨rfl, hk3, hD3⟩
  have h3 := (H2.out.keep (Keeps.refl _ w2).drew).updD (F' := e.FD) rfl hk3 hD3 (From.refl _ _)
  have CE := Lib.hid (rfFl_any (h3.ref (e := { e with d := (e.d.fl n m pat).2, FD := e.FD }) (by simp)) (n := e.d.n) HE.out.like.al.n HE.out.n n m pat (by have := HE.out.log; simp only; omega) (c := sc) (r' := (e.r.fl e.d.n n m pat).2) (by rw [HSC.out, HS.out.1]))
  have H3 := Lib.hid h3
  obtain ⟨p0, p2', p3', p4, p5'⟩ := HC.out _ _ _ h3 (by simp)
  clear h3 hk3 hD3 CD H2
  refine hK.out _ _ ?_ (fun hHeld => ?_)
  · exact ⟨p2', p3', p5'⟩
  clear hK K
  try simp only [Act.put, List.setIfInBounds_toArray, List.set_cons_zero, List.set_cons_succ, List.getElem_toArray, List.getElem_cons_zero, List.getElem_cons_succ]
  refine rl_act (i := 15) (by kernel_rfl) rfl (fun K hK => ?_)
  go_simp
  refine CE.out.mono ?_
  rintro x w4 ⟨rfl, hk4, F4, hR4, hf4⟩
  have HT := Lib.hid (H3.out.updR rfl hk4 hR4 hf4)
  have HEE : Hid (EnOk ⟨e.bd, (e.d.fl n m pat).2, e.FD, e.br, (e.r.fl e.d.n n m pat).2, F4⟩ (L + 2)) := Lib.hid ⟨HS.out.2.1, by have := HE.out.n; have := HS.out.2.2.2; simp only; omega, by have := HE.out.log; have := HS.out.2.2.1; simp only; omega⟩
  obtain ⟨p0, p2, p3, p4, p5⟩ := HC.out _ _ _ HT.out (by simp)
  clear hk4 hR4 hf4 CE H3
  refine hK.out _ _ ?_ (fun hHeld => ?_)
  · exact ⟨p2, p3, p5⟩
  clear hK K
  try simp only [Act.put, List.setIfInBounds_toArray, List.set_cons_zero, List.set_cons_succ, List.getElem_toArray, List.getElem_cons_zero, List.getElem_cons_succ]
  refine' rl_take (i := 16) (v := _) rfl (by kernel_rfl) (by kernel_rfl) (by kernel_rfl) (by kernel_rfl) (fun _ _ _ h => h) (Or.inl ⟨by rfl, ?_⟩) (by assumption) ?_
  rotate_left 1
  · (intro w0 hSw; (try dsimp only at hSw); go_split_ands; go_simp; (try with_reducible rfl))
  try simp only [Act.put, List.setIfInBounds_toArray, List.set_cons_zero, List.set_cons_succ, List.getElem_toArray, List.getElem_cons_zero, List.getElem_cons_succ]
  refine rl_last (by kernel_rfl) (by kernel_rfl) rfl (fun K hK => ?_)
  go_simp
  refine hK.out _ _ ?_
  clear hK K
  try simp only [Act.put, List.setIfInBounds_toArray, List.set_cons_zero, List.set_cons_succ, List.getElem_toArray, List.getElem_cons_zero, List.getElem_cons_succ]
  clear hHeld p0 p2 p3 p4 p5
  obtain ⟨p0, p2, p3, p4, p5⟩ := HC.out _ _ _ HT.out (by simp)
  have CI := Lib.hid (lIntact_any (l := data) (HT.out.own (v := .slice (some ⟨g, 0, none⟩) N N) (l := roomed data) (by simp)) (HD.out _ _ _ HT.out) (by rw [← HLN.out]; omega))
  go_wp2_with fail
  refine CI.out.mono ?_
  rintro x w8 ⟨rfl, hk8⟩
  have CK := Lib.hid ((HT.out.keep hk8).kept (by rw [roomed_length, ← HLN.out]; omega))
  clear hk8 p0 p2 p3 p4 p5 CI HT
  go_wp2_with fail
  refine CK.out.mono ?_
  rintro x w9 ⟨rfl, h9⟩
  have H9 := Lib.hid (h9.sub (List.nil_sublist _))
  clear h9 CK
  go_wp2_with fail
  go_ret
  exact ⟨rfl, _, HEE.out, H9.out⟩
end Go.Proofs.Ytbjffjplpnnhoaa
