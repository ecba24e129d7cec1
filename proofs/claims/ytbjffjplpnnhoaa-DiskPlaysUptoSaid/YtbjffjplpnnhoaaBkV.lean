/-
  The row of disks of layer 4's law: plays, one theorem a kind of step. Printed by gen_plays.py.
-/
import Derived.Test.YtbjffjplpnnhoaaBkQ
namespace Go.Proofs.Ytbjffjplpnnhoaa
set_option linter.unusedVariables false
set_option linter.unusedSimpArgs false
open Go.RowKit

set_option maxRecDepth 100000 in
set_option maxHeartbeats 2000000 in
theorem plays_power {w0 w : World} {b L : Nat} {es : List En} {o : OpV} (h : RowAt w0 b es [] w) (ho : o.ok w0) (hE : ∀ e ∈ es, EnOk e L) (hL : L ≤ 4294967000) (h0 : 0 < es.length) (hN : es.length ≤ 4294967290) (hk : o.kind = 11) :
    Calls Try.prog 32 #[.pointer (some ⟨b, 0, none⟩), .agg o.cells] w (PlayPost w0 b es.length L) := by
  have HO := Lib.hid ho
  obtain ⟨kind, dn, n, m, dv, data, pat⟩ := o
  simp only at hk
  subst hk
  have hdd := ho.dd
  have hnn := ho.nn
  have hmm := ho.mm
  simp only at hdd hnn hmm
  obtain ⟨g0, hg0⟩ : ∃ g0, g0 = w.heap.size := ⟨_, rfl⟩
  obtain ⟨O, hO⟩ : ∃ O : OpV, O = ⟨11, dn, n, m, dv, data, pat⟩ := ⟨_, rfl⟩
  rw [← hO] at HO
  have hOc : O.cells = #[.int .i64 11, .int .i64 dn, .int .i64 n, .int .i64 m, dv, .int .u32 pat] := by rw [hO]; rfl
  have hOk : O.kind = 11 := by rw [hO]
  unfold OpV.cells
  simp only
  obtain ⟨w1, hw1⟩ : ∃ w1, w1 = w.alloc (.cells #[.int .i64 11, .int .i64 dn, .int .i64 n, .int .i64 m, dv, .int .u32 pat] 80 (0, 0)) := ⟨_, rfl⟩
  have h1 : RowAt w0 b es [opT g0 O] w1 := h.add (w' := w1) (t := opT g0 O) (by rw [hw1]; exact (Keeps.refl _ _).alloc _) (show w1.heap[g0]? = some (.cells O.cells 80 (0, 0)) by rw [hw1, hOc]; exact heap_new_at hg0) (fun i hi => .inr (by simp [opT, blockThing] at hi; omega))
  have hcells : ∀ (wx : World) (zs : List En) (M : List Thing), RowAt w0 b zs M wx → opT g0 O ∈ M → wx.cell? ⟨g0, 0, none⟩ = some (.int .i64 11) ∧ wx.cell? ⟨g0, 1, none⟩ = some (.int .i64 dn) ∧ wx.cell? ⟨g0, 2, none⟩ = some (.int .i64 n) ∧ wx.cell? ⟨g0, 3, none⟩ = some (.int .i64 m) := by
    intro wx zs M hx hm
    obtain ⟨c0, c1, c2, c3, c4, c5⟩ := OpV.cellsAt (hx.op hm)
    rw [hO] at c0 c1 c2 c3
    exact ⟨c0, c1, c2, c3⟩
  obtain ⟨N, hNN⟩ : ∃ N, N = es.length := ⟨_, rfl⟩
  obtain ⟨p, hp⟩ : ∃ p : Nat, p = (dn % (N : Int)).toNat := ⟨_, rfl⟩
  have hN0 : (0 : Int) < (N : Int) := by omega
  have hm1 := Int.emod_nonneg dn (show (N : Int) ≠ 0 by omega)
  have hm2 := Int.emod_lt_of_pos dn hN0
  have hpz : (p : Int) = dn % (N : Int) := by omega
  have hpN : p < N := by omega
  have hng : dn.tmod (N : Int) < 0 → dn.tmod (N : Int) + (N : Int) = (p : Int) := fun hs => by rw [emod_of_neg hN0 hs, hpz]
  have hps : ¬ dn.tmod (N : Int) < 0 → dn.tmod (N : Int) = (p : Int) := fun hs => by rw [emod_of_nonneg hN0 (by omega), hpz]
  have hlo : -(N : Int) < dn.tmod (N : Int) := Int.lt_tmod_of_pos dn hN0
  obtain ⟨gd, od, cd, q0, _, _⟩ := h1.disks h0
  have HOC := Lib.hid hOc
  have HOK := Lib.hid hOk
  have HC := Lib.hid hcells
  have H1 := Lib.hid h1
  have HW1 := Lib.hid hw1
  have HG0 := Lib.hid hg0
  have HE := Lib.hid hE
  have HNN := Lib.hid hNN
  have HNG := Lib.hid hng
  have HPS := Lib.hid hps
  obtain ⟨p0, p1, p2, p3⟩ := hcells _ _ _ h1 (by simp)
  rw [← hNN] at q0 h0 hN
  clear h h1 hw1 hO hOc hOk hcells hg0 hE ho hNN hng hps hpz hm1 hm2 hp
  go_enter Try.func32, Try.ntmps32
  go_upto_region 1 with fail
  rw [← HW1.out, ← HG0.out]
  go_quiet (fail)
  go_upto_if 27 with fail
  go_cut [5] (fun s wx => s = .int .i64 p ∧ RowAt w0 b es [opT g0 O] wx)
  case first =>
    by_cases hs : dn.tmod (N : Int) < 0
    · go_wp2_with fail
      go_meet
      case rel => exact ⟨by rw [HNG.out hs], H1.out.keep ((Keeps.refl _ _).drewN _)⟩
    · go_wp2_with fail
      go_meet
      case rel => exact ⟨by rw [HPS.out hs], H1.out.keep ((Keeps.refl _ _).drewN _)⟩
  case rest =>
    obtain ⟨rfl, h2⟩ := hcut
    obtain ⟨w2, rfl⟩ : ∃ w2 : World, w2 = wc := ⟨_, rfl⟩
    clear hlo H1 p0 p1 p2 p3 q0
    obtain ⟨xs, e, ys, hes, hxl⟩ : ∃ xs e ys, es = xs ++ e :: ys ∧ xs.length = p := by
      have hpl : p < es.length := by rw [← HNN.out]; exact hpN
      exact ⟨es.take p, es[p], es.drop (p + 1), by rw [← List.drop_eq_getElem_cons hpl, List.take_append_drop], by rw [List.length_take]; omega⟩
    have hep : es[p]? = some e := by rw [hes, ← hxl, List.getElem?_append_right (Nat.le_refl _), Nat.sub_self]; rfl
    obtain ⟨gd, od, cd, q0, qd, gr, orr, cr, q1, qr, lc1, lc2⟩ := h2.disks (by rw [← HNN.out]; exact h0)
    have qd1 := qd p e hep
    have qr1 := qr p e hep
    rw [← HNN.out] at q0 q1 lc1 lc2
    have hEe := HE.out e (by rw [hes]; simp)
    have hEx : ∀ e' L', L ≤ L' → EnOk e' L' → ∀ e2 ∈ xs ++ e' :: ys, EnOk e2 L' := fun e' L' hLL he' e2 he2 => by
      rcases List.mem_append.1 he2 with he2 | he2
      · exact (HE.out e2 (by rw [hes]; simp [he2])).mono hLL
      · rcases List.mem_cons.1 he2 with rfl | he2
        · exact he'
        · exact (HE.out e2 (by rw [hes]; simp [he2])).mono hLL
    have hlen : ∀ e', (xs ++ e' :: ys).length = N := fun e' => by rw [HNN.out, hes]; simp
    have HES := Lib.hid hes
    have HEP := Lib.hid hEe
    have HEX := Lib.hid hEx
    have HLEN := Lib.hid hlen
    have H2 := Lib.hid h2
    have i0 : (0 : Int) ≤ (p : Int) := by omega
    have i1 : (p : Int) < (N : Int) := by omega
    obtain ⟨p0, p1, p2, p3⟩ := HC.out _ _ _ h2 (by simp)
    clear hep qd qr h2 hes hEe hEx hlen hxl
    go_upto_region 6 with fail
    clear q0 q1 qd1 qr1
    have hem : e ∈ es := by rw [HES.out]; simp
    obtain ⟨pw, hpw⟩ : ∃ pw, pw = (!e.d.dead) := ⟨_, rfl⟩
    have CD := Lib.hid (dPo_any (H2.out.disk hem) hpw.symm)
    have CE := Lib.hid (rfPo_any (H2.out.ref hem) HEP.out.like hpw.symm)
    have t1 : (pw == pw) = true := by simp
    clear hem hpw
    go_wp2_with fail
    refine CD.out.mono ?_
    rintro x w3 ⟨rfl, rfl⟩
    go_wp2_with fail
    refine CE.out.mono ?_
    rintro x w4 ⟨rfl, rfl⟩
    go_wp2_with fail
    have HF := Lib.hid (H2.out.sub (List.nil_sublist _))
    go_ret
    exact ⟨rfl, es, by rw [← HNN.out]; exact h0, by omega, fun e2 he2 => (HE.out e2 he2).mono (by omega), HF.out⟩
set_option maxRecDepth 100000 in
set_option maxHeartbeats 2000000 in
theorem plays_epoch {w0 w : World} {b L : Nat} {es : List En} {o : OpV} (h : RowAt w0 b es [] w) (ho : o.ok w0) (hE : ∀ e ∈ es, EnOk e L) (hL : L ≤ 4294967000) (h0 : 0 < es.length) (hN : es.length ≤ 4294967290) (hk : o.kind = 12) :
    Calls Try.prog 32 #[.pointer (some ⟨b, 0, none⟩), .agg o.cells] w (PlayPost w0 b es.length L) := by
  have HO := Lib.hid ho
  obtain ⟨kind, dn, n, m, dv, data, pat⟩ := o
  simp only at hk
  subst hk
  have hdd := ho.dd
  have hnn := ho.nn
  have hmm := ho.mm
  simp only at hdd hnn hmm
  obtain ⟨g0, hg0⟩ : ∃ g0, g0 = w.heap.size := ⟨_, rfl⟩
  obtain ⟨O, hO⟩ : ∃ O : OpV, O = ⟨12, dn, n, m, dv, data, pat⟩ := ⟨_, rfl⟩
  rw [← hO] at HO
  have hOc : O.cells = #[.int .i64 12, .int .i64 dn, .int .i64 n, .int .i64 m, dv, .int .u32 pat] := by rw [hO]; rfl
  have hOk : O.kind = 12 := by rw [hO]
  unfold OpV.cells
  simp only
  obtain ⟨w1, hw1⟩ : ∃ w1, w1 = w.alloc (.cells #[.int .i64 12, .int .i64 dn, .int .i64 n, .int .i64 m, dv, .int .u32 pat] 80 (0, 0)) := ⟨_, rfl⟩
  have h1 : RowAt w0 b es [opT g0 O] w1 := h.add (w' := w1) (t := opT g0 O) (by rw [hw1]; exact (Keeps.refl _ _).alloc _) (show w1.heap[g0]? = some (.cells O.cells 80 (0, 0)) by rw [hw1, hOc]; exact heap_new_at hg0) (fun i hi => .inr (by simp [opT, blockThing] at hi; omega))
  have hcells : ∀ (wx : World) (zs : List En) (M : List Thing), RowAt w0 b zs M wx → opT g0 O ∈ M → wx.cell? ⟨g0, 0, none⟩ = some (.int .i64 12) ∧ wx.cell? ⟨g0, 1, none⟩ = some (.int .i64 dn) ∧ wx.cell? ⟨g0, 2, none⟩ = some (.int .i64 n) ∧ wx.cell? ⟨g0, 3, none⟩ = some (.int .i64 m) := by
    intro wx zs M hx hm
    obtain ⟨c0, c1, c2, c3, c4, c5⟩ := OpV.cellsAt (hx.op hm)
    rw [hO] at c0 c1 c2 c3
    exact ⟨c0, c1, c2, c3⟩
  obtain ⟨N, hNN⟩ : ∃ N, N = es.length := ⟨_, rfl⟩
  obtain ⟨p, hp⟩ : ∃ p : Nat, p = (dn % (N : Int)).toNat := ⟨_, rfl⟩
  have hN0 : (0 : Int) < (N : Int) := by omega
  have hm1 := Int.emod_nonneg dn (show (N : Int) ≠ 0 by omega)
  have hm2 := Int.emod_lt_of_pos dn hN0
  have hpz : (p : Int) = dn % (N : Int) := by omega
  have hpN : p < N := by omega
  have hng : dn.tmod (N : Int) < 0 → dn.tmod (N : Int) + (N : Int) = (p : Int) := fun hs => by rw [emod_of_neg hN0 hs, hpz]
  have hps : ¬ dn.tmod (N : Int) < 0 → dn.tmod (N : Int) = (p : Int) := fun hs => by rw [emod_of_nonneg hN0 (by omega), hpz]
  have hlo : -(N : Int) < dn.tmod (N : Int) := Int.lt_tmod_of_pos dn hN0
  obtain ⟨gd, od, cd, q0, _, _⟩ := h1.disks h0
  have HOC := Lib.hid hOc
  have HOK := Lib.hid hOk
  have HC := Lib.hid hcells
  have H1 := Lib.hid h1
  have HW1 := Lib.hid hw1
  have HG0 := Lib.hid hg0
  have HE := Lib.hid hE
  have HNN := Lib.hid hNN
  have HNG := Lib.hid hng
  have HPS := Lib.hid hps
  obtain ⟨p0, p1, p2, p3⟩ := hcells _ _ _ h1 (by simp)
  rw [← hNN] at q0 h0 hN
  clear h h1 hw1 hO hOc hOk hcells hg0 hE ho hNN hng hps hpz hm1 hm2 hp
  go_enter Try.func32, Try.ntmps32
  go_upto_region 1 with fail
  rw [← HW1.out, ← HG0.out]
  go_quiet (fail)
  go_upto_if 27 with fail
  go_cut [5] (fun s wx => s = .int .i64 p ∧ RowAt w0 b es [opT g0 O] wx)
  case first =>
    by_cases hs : dn.tmod (N : Int) < 0
    · go_wp2_with fail
      go_meet
      case rel => exact ⟨by rw [HNG.out hs], H1.out.keep ((Keeps.refl _ _).drewN _)⟩
    · go_wp2_with fail
      go_meet
      case rel => exact ⟨by rw [HPS.out hs], H1.out.keep ((Keeps.refl _ _).drewN _)⟩
  case rest =>
    obtain ⟨rfl, h2⟩ := hcut
    obtain ⟨w2, rfl⟩ : ∃ w2 : World, w2 = wc := ⟨_, rfl⟩
    clear hlo H1 p0 p1 p2 p3 q0
    obtain ⟨xs, e, ys, hes, hxl⟩ : ∃ xs e ys, es = xs ++ e :: ys ∧ xs.length = p := by
      have hpl : p < es.length := by rw [← HNN.out]; exact hpN
      exact ⟨es.take p, es[p], es.drop (p + 1), by rw [← List.drop_eq_getElem_cons hpl, List.take_append_drop], by rw [List.length_take]; omega⟩
    have hep : es[p]? = some e := by rw [hes, ← hxl, List.getElem?_append_right (Nat.le_refl _), Nat.sub_self]; rfl
    obtain ⟨gd, od, cd, q0, qd, gr, orr, cr, q1, qr, lc1, lc2⟩ := h2.disks (by rw [← HNN.out]; exact h0)
    have qd1 := qd p e hep
    have qr1 := qr p e hep
    rw [← HNN.out] at q0 q1 lc1 lc2
    have hEe := HE.out e (by rw [hes]; simp)
    have hEx : ∀ e' L', L ≤ L' → EnOk e' L' → ∀ e2 ∈ xs ++ e' :: ys, EnOk e2 L' := fun e' L' hLL he' e2 he2 => by
      rcases List.mem_append.1 he2 with he2 | he2
      · exact (HE.out e2 (by rw [hes]; simp [he2])).mono hLL
      · rcases List.mem_cons.1 he2 with rfl | he2
        · exact he'
        · exact (HE.out e2 (by rw [hes]; simp [he2])).mono hLL
    have hlen : ∀ e', (xs ++ e' :: ys).length = N := fun e' => by rw [HNN.out, hes]; simp
    have HES := Lib.hid hes
    have HEP := Lib.hid hEe
    have HEX := Lib.hid hEx
    have HLEN := Lib.hid hlen
    have H2 := Lib.hid h2
    have i0 : (0 : Int) ≤ (p : Int) := by omega
    have i1 : (p : Int) < (N : Int) := by omega
    obtain ⟨p0, p1, p2, p3⟩ := HC.out _ _ _ h2 (by simp)
    clear hep qd qr h2 hes hEe hEx hlen hxl
    go_upto_region 6 with fail
    clear q0 q1 qd1 qr1
    have hem : e ∈ es := by rw [HES.out]; simp
    obtain ⟨pw, hpw⟩ : ∃ pw, pw = e.d.epoch := ⟨_, rfl⟩
    have CD := Lib.hid (epoch_thing (H2.out.disk hem) hpw.symm)
    have CE := Lib.hid (rfEp_any (H2.out.ref hem) HEP.out.like hpw.symm)
    have t1 : (pw == pw) = true := by simp
    clear hem hpw
    go_wp2_with fail
    refine CD.out.mono ?_
    rintro x w3 ⟨rfl, rfl⟩
    go_wp2_with fail
    refine CE.out.mono ?_
    rintro x w4 ⟨rfl, rfl⟩
    go_wp2_with fail
    have HF := Lib.hid (H2.out.sub (List.nil_sublist _))
    go_ret
    exact ⟨rfl, es, by rw [← HNN.out]; exact h0, by omega, fun e2 he2 => (HE.out e2 he2).mono (by omega), HF.out⟩
set_option maxRecDepth 100000 in
set_option maxHeartbeats 2000000 in
theorem plays_pages {w0 w : World} {b L : Nat} {es : List En} {o : OpV} (h : RowAt w0 b es [] w) (ho : o.ok w0) (hE : ∀ e ∈ es, EnOk e L) (hL : L ≤ 4294967000) (h0 : 0 < es.length) (hN : es.length ≤ 4294967290) (hk : o.kind = 15) :
    Calls Try.prog 32 #[.pointer (some ⟨b, 0, none⟩), .agg o.cells] w (PlayPost w0 b es.length L) := by
  have HO := Lib.hid ho
  obtain ⟨kind, dn, n, m, dv, data, pat⟩ := o
  simp only at hk
  subst hk
  have hdd := ho.dd
  have hnn := ho.nn
  have hmm := ho.mm
  simp only at hdd hnn hmm
  obtain ⟨g0, hg0⟩ : ∃ g0, g0 = w.heap.size := ⟨_, rfl⟩
  obtain ⟨O, hO⟩ : ∃ O : OpV, O = ⟨15, dn, n, m, dv, data, pat⟩ := ⟨_, rfl⟩
  rw [← hO] at HO
  have hOc : O.cells = #[.int .i64 15, .int .i64 dn, .int .i64 n, .int .i64 m, dv, .int .u32 pat] := by rw [hO]; rfl
  have hOk : O.kind = 15 := by rw [hO]
  unfold OpV.cells
  simp only
  obtain ⟨w1, hw1⟩ : ∃ w1, w1 = w.alloc (.cells #[.int .i64 15, .int .i64 dn, .int .i64 n, .int .i64 m, dv, .int .u32 pat] 80 (0, 0)) := ⟨_, rfl⟩
  have h1 : RowAt w0 b es [opT g0 O] w1 := h.add (w' := w1) (t := opT g0 O) (by rw [hw1]; exact (Keeps.refl _ _).alloc _) (show w1.heap[g0]? = some (.cells O.cells 80 (0, 0)) by rw [hw1, hOc]; exact heap_new_at hg0) (fun i hi => .inr (by simp [opT, blockThing] at hi; omega))
  have hcells : ∀ (wx : World) (zs : List En) (M : List Thing), RowAt w0 b zs M wx → opT g0 O ∈ M → wx.cell? ⟨g0, 0, none⟩ = some (.int .i64 15) ∧ wx.cell? ⟨g0, 1, none⟩ = some (.int .i64 dn) ∧ wx.cell? ⟨g0, 2, none⟩ = some (.int .i64 n) ∧ wx.cell? ⟨g0, 3, none⟩ = some (.int .i64 m) := by
    intro wx zs M hx hm
    obtain ⟨c0, c1, c2, c3, c4, c5⟩ := OpV.cellsAt (hx.op hm)
    rw [hO] at c0 c1 c2 c3
    exact ⟨c0, c1, c2, c3⟩
  obtain ⟨N, hNN⟩ : ∃ N, N = es.length := ⟨_, rfl⟩
  obtain ⟨p, hp⟩ : ∃ p : Nat, p = (dn % (N : Int)).toNat := ⟨_, rfl⟩
  have hN0 : (0 : Int) < (N : Int) := by omega
  have hm1 := Int.emod_nonneg dn (show (N : Int) ≠ 0 by omega)
  have hm2 := Int.emod_lt_of_pos dn hN0
  have hpz : (p : Int) = dn % (N : Int) := by omega
  have hpN : p < N := by omega
  have hng : dn.tmod (N : Int) < 0 → dn.tmod (N : Int) + (N : Int) = (p : Int) := fun hs => by rw [emod_of_neg hN0 hs, hpz]
  have hps : ¬ dn.tmod (N : Int) < 0 → dn.tmod (N : Int) = (p : Int) := fun hs => by rw [emod_of_nonneg hN0 (by omega), hpz]
  have hlo : -(N : Int) < dn.tmod (N : Int) := Int.lt_tmod_of_pos dn hN0
  obtain ⟨gd, od, cd, q0, _, _⟩ := h1.disks h0
  have HOC := Lib.hid hOc
  have HOK := Lib.hid hOk
  have HC := Lib.hid hcells
  have H1 := Lib.hid h1
  have HW1 := Lib.hid hw1
  have HG0 := Lib.hid hg0
  have HE := Lib.hid hE
  have HNN := Lib.hid hNN
  have HNG := Lib.hid hng
  have HPS := Lib.hid hps
  obtain ⟨p0, p1, p2, p3⟩ := hcells _ _ _ h1 (by simp)
  rw [← hNN] at q0 h0 hN
  clear h h1 hw1 hO hOc hOk hcells hg0 hE ho hNN hng hps hpz hm1 hm2 hp
  go_enter Try.func32, Try.ntmps32
  go_upto_region 1 with fail
  rw [← HW1.out, ← HG0.out]
  go_quiet (fail)
  go_upto_if 27 with fail
  go_cut [5] (fun s wx => s = .int .i64 p ∧ RowAt w0 b es [opT g0 O] wx)
  case first =>
    by_cases hs : dn.tmod (N : Int) < 0
    · go_wp2_with fail
      go_meet
      case rel => exact ⟨by rw [HNG.out hs], H1.out.keep ((Keeps.refl _ _).drewN _)⟩
    · go_wp2_with fail
      go_meet
      case rel => exact ⟨by rw [HPS.out hs], H1.out.keep ((Keeps.refl _ _).drewN _)⟩
  case rest =>
    obtain ⟨rfl, h2⟩ := hcut
    obtain ⟨w2, rfl⟩ : ∃ w2 : World, w2 = wc := ⟨_, rfl⟩
    clear hlo H1 p0 p1 p2 p3 q0
    obtain ⟨xs, e, ys, hes, hxl⟩ : ∃ xs e ys, es = xs ++ e :: ys ∧ xs.length = p := by
      have hpl : p < es.length := by rw [← HNN.out]; exact hpN
      exact ⟨es.take p, es[p], es.drop (p + 1), by rw [← List.drop_eq_getElem_cons hpl, List.take_append_drop], by rw [List.length_take]; omega⟩
    have hep : es[p]? = some e := by rw [hes, ← hxl, List.getElem?_append_right (Nat.le_refl _), Nat.sub_self]; rfl
    obtain ⟨gd, od, cd, q0, qd, gr, orr, cr, q1, qr, lc1, lc2⟩ := h2.disks (by rw [← HNN.out]; exact h0)
    have qd1 := qd p e hep
    have qr1 := qr p e hep
    rw [← HNN.out] at q0 q1 lc1 lc2
    have hEe := HE.out e (by rw [hes]; simp)
    have hEx : ∀ e' L', L ≤ L' → EnOk e' L' → ∀ e2 ∈ xs ++ e' :: ys, EnOk e2 L' := fun e' L' hLL he' e2 he2 => by
      rcases List.mem_append.1 he2 with he2 | he2
      · exact (HE.out e2 (by rw [hes]; simp [he2])).mono hLL
      · rcases List.mem_cons.1 he2 with rfl | he2
        · exact he'
        · exact (HE.out e2 (by rw [hes]; simp [he2])).mono hLL
    have hlen : ∀ e', (xs ++ e' :: ys).length = N := fun e' => by rw [HNN.out, hes]; simp
    have HES := Lib.hid hes
    have HEP := Lib.hid hEe
    have HEX := Lib.hid hEx
    have HLEN := Lib.hid hlen
    have H2 := Lib.hid h2
    have i0 : (0 : Int) ≤ (p : Int) := by omega
    have i1 : (p : Int) < (N : Int) := by omega
    obtain ⟨p0, p1, p2, p3⟩ := HC.out _ _ _ h2 (by simp)
    clear hep qd qr h2 hes hEe hEx hlen hxl
    go_upto_region 6 with fail
    clear q0 q1 qd1 qr1
    have hem : e ∈ es := by rw [HES.out]; simp
    obtain ⟨pw, hpw⟩ : ∃ pw, pw = e.d.n := ⟨_, rfl⟩
    have cd := pages_thing (H2.out.disk hem)
    have ce := rfPages_any (H2.out.ref hem) HEP.out.like.al.n HEP.out.n
    rw [← hpw] at cd ce
    have CD := Lib.hid cd
    have CE := Lib.hid ce
    have t1 : ((pw : Int) == (pw : Int)) = true := by simp
    clear hem hpw cd ce
    go_wp2_with fail
    refine CD.out.mono ?_
    rintro x w3 ⟨rfl, rfl⟩
    go_wp2_with fail
    refine CE.out.mono ?_
    rintro x w4 ⟨rfl, rfl⟩
    go_wp2_with fail
    have HF := Lib.hid (H2.out.sub (List.nil_sublist _))
    go_ret
    exact ⟨rfl, es, by rw [← HNN.out]; exact h0, by omega, fun e2 he2 => (HE.out e2 he2).mono (by omega), HF.out⟩
set_option maxRecDepth 100000 in
set_option maxHeartbeats 2000000 in
theorem plays_counts {w0 w : World} {b L : Nat} {es : List En} {o : OpV} (h : RowAt w0 b es [] w) (ho : o.ok w0) (hE : ∀ e ∈ es, EnOk e L) (hL : L ≤ 4294967000) (h0 : 0 < es.length) (hN : es.length ≤ 4294967290) (hk : o.kind = 14) :
    Calls Try.prog 32 #[.pointer (some ⟨b, 0, none⟩), .agg o.cells] w (PlayPost w0 b es.length L) := by
  have HO := Lib.hid ho
  obtain ⟨kind, dn, n, m, dv, data, pat⟩ := o
  simp only at hk
  subst hk
  have hdd := ho.dd
  have hnn := ho.nn
  have hmm := ho.mm
  simp only at hdd hnn hmm
  obtain ⟨g0, hg0⟩ : ∃ g0, g0 = w.heap.size := ⟨_, rfl⟩
  obtain ⟨O, hO⟩ : ∃ O : OpV, O = ⟨14, dn, n, m, dv, data, pat⟩ := ⟨_, rfl⟩
  rw [← hO] at HO
  have hOc : O.cells = #[.int .i64 14, .int .i64 dn, .int .i64 n, .int .i64 m, dv, .int .u32 pat] := by rw [hO]; rfl
  have hOk : O.kind = 14 := by rw [hO]
  unfold OpV.cells
  simp only
  obtain ⟨w1, hw1⟩ : ∃ w1, w1 = w.alloc (.cells #[.int .i64 14, .int .i64 dn, .int .i64 n, .int .i64 m, dv, .int .u32 pat] 80 (0, 0)) := ⟨_, rfl⟩
  have h1 : RowAt w0 b es [opT g0 O] w1 := h.add (w' := w1) (t := opT g0 O) (by rw [hw1]; exact (Keeps.refl _ _).alloc _) (show w1.heap[g0]? = some (.cells O.cells 80 (0, 0)) by rw [hw1, hOc]; exact heap_new_at hg0) (fun i hi => .inr (by simp [opT, blockThing] at hi; omega))
  have hcells : ∀ (wx : World) (zs : List En) (M : List Thing), RowAt w0 b zs M wx → opT g0 O ∈ M → wx.cell? ⟨g0, 0, none⟩ = some (.int .i64 14) ∧ wx.cell? ⟨g0, 1, none⟩ = some (.int .i64 dn) ∧ wx.cell? ⟨g0, 2, none⟩ = some (.int .i64 n) ∧ wx.cell? ⟨g0, 3, none⟩ = some (.int .i64 m) := by
    intro wx zs M hx hm
    obtain ⟨c0, c1, c2, c3, c4, c5⟩ := OpV.cellsAt (hx.op hm)
    rw [hO] at c0 c1 c2 c3
    exact ⟨c0, c1, c2, c3⟩
  obtain ⟨N, hNN⟩ : ∃ N, N = es.length := ⟨_, rfl⟩
  obtain ⟨p, hp⟩ : ∃ p : Nat, p = (dn % (N : Int)).toNat := ⟨_, rfl⟩
  have hN0 : (0 : Int) < (N : Int) := by omega
  have hm1 := Int.emod_nonneg dn (show (N : Int) ≠ 0 by omega)
  have hm2 := Int.emod_lt_of_pos dn hN0
  have hpz : (p : Int) = dn % (N : Int) := by omega
  have hpN : p < N := by omega
  have hng : dn.tmod (N : Int) < 0 → dn.tmod (N : Int) + (N : Int) = (p : Int) := fun hs => by rw [emod_of_neg hN0 hs, hpz]
  have hps : ¬ dn.tmod (N : Int) < 0 → dn.tmod (N : Int) = (p : Int) := fun hs => by rw [emod_of_nonneg hN0 (by omega), hpz]
  have hlo : -(N : Int) < dn.tmod (N : Int) := Int.lt_tmod_of_pos dn hN0
  obtain ⟨gd, od, cd, q0, _, _⟩ := h1.disks h0
  have HOC := Lib.hid hOc
  have HOK := Lib.hid hOk
  have HC := Lib.hid hcells
  have H1 := Lib.hid h1
  have HW1 := Lib.hid hw1
  have HG0 := Lib.hid hg0
  have HE := Lib.hid hE
  have HNN := Lib.hid hNN
  have HNG := Lib.hid hng
  have HPS := Lib.hid hps
  obtain ⟨p0, p1, p2, p3⟩ := hcells _ _ _ h1 (by simp)
  rw [← hNN] at q0 h0 hN
  clear h h1 hw1 hO hOc hOk hcells hg0 hE ho hNN hng hps hpz hm1 hm2 hp
  go_enter Try.func32, Try.ntmps32
  go_upto_region 1 with fail
  rw [← HW1.out, ← HG0.out]
  go_quiet (fail)
  go_upto_if 27 with fail
  go_cut [5] (fun s wx => s = .int .i64 p ∧ RowAt w0 b es [opT g0 O] wx)
  case first =>
    by_cases hs : dn.tmod (N : Int) < 0
    · go_wp2_with fail
      go_meet
      case rel => exact ⟨by rw [HNG.out hs], H1.out.keep ((Keeps.refl _ _).drewN _)⟩
    · go_wp2_with fail
      go_meet
      case rel => exact ⟨by rw [HPS.out hs], H1.out.keep ((Keeps.refl _ _).drewN _)⟩
  case rest =>
    obtain ⟨rfl, h2⟩ := hcut
    obtain ⟨w2, rfl⟩ : ∃ w2 : World, w2 = wc := ⟨_, rfl⟩
    clear hlo H1 p0 p1 p2 p3 q0
    obtain ⟨xs, e, ys, hes, hxl⟩ : ∃ xs e ys, es = xs ++ e :: ys ∧ xs.length = p := by
      have hpl : p < es.length := by rw [← HNN.out]; exact hpN
      exact ⟨es.take p, es[p], es.drop (p + 1), by rw [← List.drop_eq_getElem_cons hpl, List.take_append_drop], by rw [List.length_take]; omega⟩
    have hep : es[p]? = some e := by rw [hes, ← hxl, List.getElem?_append_right (Nat.le_refl _), Nat.sub_self]; rfl
    obtain ⟨gd, od, cd, q0, qd, gr, orr, cr, q1, qr, lc1, lc2⟩ := h2.disks (by rw [← HNN.out]; exact h0)
    have qd1 := qd p e hep
    have qr1 := qr p e hep
    rw [← HNN.out] at q0 q1 lc1 lc2
    have hEe := HE.out e (by rw [hes]; simp)
    have hEx : ∀ e' L', L ≤ L' → EnOk e' L' → ∀ e2 ∈ xs ++ e' :: ys, EnOk e2 L' := fun e' L' hLL he' e2 he2 => by
      rcases List.mem_append.1 he2 with he2 | he2
      · exact (HE.out e2 (by rw [hes]; simp [he2])).mono hLL
      · rcases List.mem_cons.1 he2 with rfl | he2
        · exact he'
        · exact (HE.out e2 (by rw [hes]; simp [he2])).mono hLL
    have hlen : ∀ e', (xs ++ e' :: ys).length = N := fun e' => by rw [HNN.out, hes]; simp
    have HES := Lib.hid hes
    have HEP := Lib.hid hEe
    have HEX := Lib.hid hEx
    have HLEN := Lib.hid hlen
    have H2 := Lib.hid h2
    have i0 : (0 : Int) ≤ (p : Int) := by omega
    have i1 : (p : Int) < (N : Int) := by omega
    obtain ⟨p0, p1, p2, p3⟩ := HC.out _ _ _ h2 (by simp)
    clear hep qd qr h2 hes hEe hEx hlen hxl
    go_upto_region 6 with fail
    clear q0 q1 qd1 qr1
    have hem : e ∈ es := by rw [HES.out]; simp
    obtain ⟨c1, hc1⟩ : ∃ x, x = e.d.reads := ⟨_, rfl⟩
    obtain ⟨c2, hc2⟩ : ∃ x, x = e.d.writes := ⟨_, rfl⟩
    obtain ⟨c3, hc3⟩ : ∃ x, x = e.d.syncs := ⟨_, rfl⟩
    obtain ⟨c4, hc4⟩ : ∃ x : Int, x = (e.d.q.length : Int) := ⟨_, rfl⟩
    have CD := Lib.hid (dCo_any (H2.out.disk hem) hc1.symm hc2.symm hc3.symm hc4.symm)
    have HC1 := Lib.hid hc1
    have HC2 := Lib.hid hc2
    have HC3 := Lib.hid hc3
    have HC4 := Lib.hid hc4
    have t1 : (c1 == c1) = true := by simp
    have t2 : (c2 == c2) = true := by simp
    have t3 : (c3 == c3) = true := by simp
    have t4 : (c4 == c4) = true := by simp
    clear hem hc1 hc2 hc3 hc4
    go_wp2_with fail
    refine CD.out.mono ?_
    rintro x w3 ⟨rfl, hk3⟩
    have h3 := H2.out.keep hk3
    have CE := Lib.hid (rfCo_any (h3.ref (e := e) (by rw [HES.out]; simp)) HEP.out.like (by have := HEP.out.log; omega) HC1.out.symm HC2.out.symm HC3.out.symm HC4.out.symm)
    have H3 := Lib.hid h3
    clear h3 hk3 CD H2
    go_wp2_with fail
    refine CE.out.mono ?_
    rintro x w4 ⟨rfl, hk4⟩
    have H4 := Lib.hid (H3.out.keep hk4)
    clear hk4 H3 CE
    go_wp2_with fail
    have HF := Lib.hid (H4.out.sub (List.nil_sublist _))
    go_ret
    exact ⟨rfl, es, by rw [← HNN.out]; exact h0, by omega, fun e2 he2 => (HE.out e2 he2).mono (by omega), HF.out⟩
set_option maxRecDepth 100000 in
set_option maxHeartbeats 2000000 in
theorem plays_read {w0 w : World} {b L : Nat} {es : List En} {o : OpV} (h : RowAt w0 b es [] w) (ho : o.ok w0) (hE : ∀ e ∈ es, EnOk e L) (hL : L ≤ 4294967000) (h0 : 0 < es.length) (hN : es.length ≤ 4294967290) (hk : o.kind = 4) :
    Calls Try.prog 32 #[.pointer (some ⟨b, 0, none⟩), .agg o.cells] w (PlayPost w0 b es.length L) := by
  have HO := Lib.hid ho
  obtain ⟨kind, dn, n, m, dv, data, pat⟩ := o
  simp only at hk
  subst hk
  have hdd := ho.dd
  have hnn := ho.nn
  have hmm := ho.mm
  simp only at hdd hnn hmm
  obtain ⟨g0, hg0⟩ : ∃ g0, g0 = w.heap.size := ⟨_, rfl⟩
  obtain ⟨O, hO⟩ : ∃ O : OpV, O = ⟨4, dn, n, m, dv, data, pat⟩ := ⟨_, rfl⟩
  rw [← hO] at HO
  have hOc : O.cells = #[.int .i64 4, .int .i64 dn, .int .i64 n, .int .i64 m, dv, .int .u32 pat] := by rw [hO]; rfl
  have hOk : O.kind = 4 := by rw [hO]
  unfold OpV.cells
  simp only
  obtain ⟨w1, hw1⟩ : ∃ w1, w1 = w.alloc (.cells #[.int .i64 4, .int .i64 dn, .int .i64 n, .int .i64 m, dv, .int .u32 pat] 80 (0, 0)) := ⟨_, rfl⟩
  have h1 : RowAt w0 b es [opT g0 O] w1 := h.add (w' := w1) (t := opT g0 O) (by rw [hw1]; exact (Keeps.refl _ _).alloc _) (show w1.heap[g0]? = some (.cells O.cells 80 (0, 0)) by rw [hw1, hOc]; exact heap_new_at hg0) (fun i hi => .inr (by simp [opT, blockThing] at hi; omega))
  have hcells : ∀ (wx : World) (zs : List En) (M : List Thing), RowAt w0 b zs M wx → opT g0 O ∈ M → wx.cell? ⟨g0, 0, none⟩ = some (.int .i64 4) ∧ wx.cell? ⟨g0, 1, none⟩ = some (.int .i64 dn) ∧ wx.cell? ⟨g0, 2, none⟩ = some (.int .i64 n) ∧ wx.cell? ⟨g0, 3, none⟩ = some (.int .i64 m) := by
    intro wx zs M hx hm
    obtain ⟨c0, c1, c2, c3, c4, c5⟩ := OpV.cellsAt (hx.op hm)
    rw [hO] at c0 c1 c2 c3
    exact ⟨c0, c1, c2, c3⟩
  obtain ⟨N, hNN⟩ : ∃ N, N = es.length := ⟨_, rfl⟩
  obtain ⟨p, hp⟩ : ∃ p : Nat, p = (dn % (N : Int)).toNat := ⟨_, rfl⟩
  have hN0 : (0 : Int) < (N : Int) := by omega
  have hm1 := Int.emod_nonneg dn (show (N : Int) ≠ 0 by omega)
  have hm2 := Int.emod_lt_of_pos dn hN0
  have hpz : (p : Int) = dn % (N : Int) := by omega
  have hpN : p < N := by omega
  have hng : dn.tmod (N : Int) < 0 → dn.tmod (N : Int) + (N : Int) = (p : Int) := fun hs => by rw [emod_of_neg hN0 hs, hpz]
  have hps : ¬ dn.tmod (N : Int) < 0 → dn.tmod (N : Int) = (p : Int) := fun hs => by rw [emod_of_nonneg hN0 (by omega), hpz]
  have hlo : -(N : Int) < dn.tmod (N : Int) := Int.lt_tmod_of_pos dn hN0
  obtain ⟨gd, od, cd, q0, _, _⟩ := h1.disks h0
  have HOC := Lib.hid hOc
  have HOK := Lib.hid hOk
  have HC := Lib.hid hcells
  have H1 := Lib.hid h1
  have HW1 := Lib.hid hw1
  have HG0 := Lib.hid hg0
  have HE := Lib.hid hE
  have HNN := Lib.hid hNN
  have HNG := Lib.hid hng
  have HPS := Lib.hid hps
  obtain ⟨p0, p1, p2, p3⟩ := hcells _ _ _ h1 (by simp)
  rw [← hNN] at q0 h0 hN
  clear h h1 hw1 hO hOc hOk hcells hg0 hE ho hNN hng hps hpz hm1 hm2 hp
  go_enter Try.func32, Try.ntmps32
  go_upto_region 1 with fail
  rw [← HW1.out, ← HG0.out]
  go_quiet (fail)
  go_upto_if 27 with fail
  go_cut [5] (fun s wx => s = .int .i64 p ∧ RowAt w0 b es [opT g0 O] wx)
  case first =>
    by_cases hs : dn.tmod (N : Int) < 0
    · go_wp2_with fail
      go_meet
      case rel => exact ⟨by rw [HNG.out hs], H1.out.keep ((Keeps.refl _ _).drewN _)⟩
    · go_wp2_with fail
      go_meet
      case rel => exact ⟨by rw [HPS.out hs], H1.out.keep ((Keeps.refl _ _).drewN _)⟩
  case rest =>
    obtain ⟨rfl, h2⟩ := hcut
    obtain ⟨w2, rfl⟩ : ∃ w2 : World, w2 = wc := ⟨_, rfl⟩
    clear hlo H1 p0 p1 p2 p3 q0
    obtain ⟨xs, e, ys, hes, hxl⟩ : ∃ xs e ys, es = xs ++ e :: ys ∧ xs.length = p := by
      have hpl : p < es.length := by rw [← HNN.out]; exact hpN
      exact ⟨es.take p, es[p], es.drop (p + 1), by rw [← List.drop_eq_getElem_cons hpl, List.take_append_drop], by rw [List.length_take]; omega⟩
    have hep : es[p]? = some e := by rw [hes, ← hxl, List.getElem?_append_right (Nat.le_refl _), Nat.sub_self]; rfl
    obtain ⟨gd, od, cd, q0, qd, gr, orr, cr, q1, qr, lc1, lc2⟩ := h2.disks (by rw [← HNN.out]; exact h0)
    have qd1 := qd p e hep
    have qr1 := qr p e hep
    rw [← HNN.out] at q0 q1 lc1 lc2
    have hEe := HE.out e (by rw [hes]; simp)
    have hEx : ∀ e' L', L ≤ L' → EnOk e' L' → ∀ e2 ∈ xs ++ e' :: ys, EnOk e2 L' := fun e' L' hLL he' e2 he2 => by
      rcases List.mem_append.1 he2 with he2 | he2
      · exact (HE.out e2 (by rw [hes]; simp [he2])).mono hLL
      · rcases List.mem_cons.1 he2 with rfl | he2
        · exact he'
        · exact (HE.out e2 (by rw [hes]; simp [he2])).mono hLL
    have hlen : ∀ e', (xs ++ e' :: ys).length = N := fun e' => by rw [HNN.out, hes]; simp
    have HES := Lib.hid hes
    have HEP := Lib.hid hEe
    have HEX := Lib.hid hEx
    have HLEN := Lib.hid hlen
    have H2 := Lib.hid h2
    have i0 : (0 : Int) ≤ (p : Int) := by omega
    have i1 : (p : Int) < (N : Int) := by omega
    obtain ⟨p0, p1, p2, p3⟩ := HC.out _ _ _ h2 (by simp)
    clear hep qd qr h2 hes hEe hEx hlen hxl
    go_upto_region 6 with fail
    clear q0 q1 qd1 qr1
    have hem : e ∈ es := by rw [HES.out]; simp
    obtain ⟨c, hc⟩ : ∃ c, c = e.d.code n := ⟨_, rfl⟩
    obtain ⟨l, hl⟩ : ∃ l, l = e.d.told n := ⟨_, rfl⟩
    have CD := Lib.hid (dRd_any (H2.out.disk hem) n hc.symm hl.symm)
    have HCC := Lib.hid hc
    have HLL := Lib.hid hl
    have hl2 : l.length ≤ 16777216 := by
      have := D.told_length (H2.out.disk hem).ok n
      rw [hl]; omega
    have t1 : (c == c) = true := by simp
    clear hem hc hl
    go_wp2_with fail
    refine CD.out.mono ?_
    rintro x w3 ⟨v1, rfl, hO3, hf3, hk3, hD3⟩
    have h3 := H2.out.updDv HES.out hk3 hD3 hO3 hf3
    have CE := Lib.hid (rfRd_any (h3.ref (e := { e with d := e.d.rd n }) (by simp)) HEP.out.like HEP.out.n (by have := HEP.out.log; simp only; omega) n HCC.out.symm HLL.out.symm)
    obtain ⟨p0, p1, p2, p3⟩ := HC.out _ _ _ h3 (by simp)
    have H3 := Lib.hid h3
    clear h3 hO3 hf3 hk3 hD3 CD H2
    go_wp2_with fail
    refine CE.out.mono ?_
    rintro x w4 ⟨v2, rfl, hO4, hf4, hk4, hR4⟩
    have h4 := H3.out.updRv rfl hk4 hR4 hO4 hf4
    have CD2 := Lib.hid (dRd_any (h4.disk (e := { e with d := e.d.rd n, r := e.r.rd c }) (by simp)) n (c := c) (by rw [D.code_rd]; exact HCC.out.symm) (l := l) (by rw [D.told_rd]; exact HLL.out.symm))
    obtain ⟨p0, p1, p2, p3⟩ := HC.out _ _ _ h4 (by simp)
    have H4 := Lib.hid h4
    clear h4 hO4 hf4 hk4 hR4 CE H3
    go_wp2_with fail
    refine CD2.out.mono ?_
    rintro x w5 ⟨v3, rfl, hO5, hf5, hk5, hD5⟩
    have h5 := H4.out.updDv rfl hk5 hD5 hO5 hf5
    have hlk := HEP.out.like.reads n
    rw [← HCC.out] at hlk
    have HLK := Lib.hid hlk
    have CE2 := Lib.hid (rfRd_any (h5.ref (e := { e with d := (e.d.rd n).rd n, r := e.r.rd c }) (by simp)) (d := e.d.rd n) hlk.1 (by rw [D.rd_n]; exact HEP.out.n) (by have := HEP.out.log; simp only; rw [hlk.2.1]; omega) n (c := c) (by rw [D.code_rd]; exact HCC.out.symm) (l := l) (by rw [D.told_rd]; exact HLL.out.symm))
    obtain ⟨p0, p1, p2, p3⟩ := HC.out _ _ _ h5 (by simp)
    have H5 := Lib.hid h5
    clear h5 hO5 hf5 hk5 hD5 CD2 H4 hlk
    go_wp2_with fail
    refine CE2.out.mono ?_
    rintro x w6 ⟨v4, rfl, hO6, hf6, hk6, hR6⟩
    have h6 := H5.out.updRv rfl hk6 hR6 hO6 hf6
    obtain ⟨p0, p1, p2, p3⟩ := HC.out _ _ _ h6 (by simp)
    have CT := Lib.hid (told_thing m (h6.perm (N := bytesThing v1 l :: bytesThing v3 l :: [bytesThing v2 l, bytesThing v4 l, opT g0 O]) (perm_of fun t => by simp only [tcnt_cons]; omega)) (c1 := v2) (c2 := v4) (by simp) (by simp) hl2)
    have HK2 : Hid (EnOk { e with d := (e.d.rd n).rd n, r := (e.r.rd c).rd c } (L + 2)) := Lib.hid (by
      have h7 := HLK.out.1.reads n
      rw [D.code_rd, ← HCC.out] at h7
      exact ⟨h7.1, by simp only; rw [D.rd_n, D.rd_n]; exact HEP.out.n, by have := HEP.out.log; simp only; rw [h7.2.1, HLK.out.2.1]; omega⟩)
    clear h6 hO6 hf6 hk6 hR6 CE2 H5
    go_wp2_with fail
    refine CT.out.mono ?_
    rintro x w7 ⟨rfl, h7⟩
    have H7 := Lib.hid (h7.sub (List.nil_sublist _))
    clear h7 CT
    go_wp2_with fail
    go_ret
    exact ⟨rfl, _, by rw [HLEN.out]; exact h0, by rw [HLEN.out, HNN.out]; omega, HEX.out _ _ (by omega) HK2.out, H7.out⟩
set_option maxRecDepth 100000 in
set_option maxHeartbeats 2000000 in
theorem plays_image {w0 w : World} {b L : Nat} {es : List En} {o : OpV} (h : RowAt w0 b es [] w) (ho : o.ok w0) (hE : ∀ e ∈ es, EnOk e L) (hL : L ≤ 4294967000) (h0 : 0 < es.length) (hN : es.length ≤ 4294967290) (hk : o.kind = 10) :
    Calls Try.prog 32 #[.pointer (some ⟨b, 0, none⟩), .agg o.cells] w (PlayPost w0 b es.length L) := by
  have HO := Lib.hid ho
  obtain ⟨kind, dn, n, m, dv, data, pat⟩ := o
  simp only at hk
  subst hk
  have hdd := ho.dd
  have hnn := ho.nn
  have hmm := ho.mm
  simp only at hdd hnn hmm
  obtain ⟨g0, hg0⟩ : ∃ g0, g0 = w.heap.size := ⟨_, rfl⟩
  obtain ⟨O, hO⟩ : ∃ O : OpV, O = ⟨10, dn, n, m, dv, data, pat⟩ := ⟨_, rfl⟩
  rw [← hO] at HO
  have hOc : O.cells = #[.int .i64 10, .int .i64 dn, .int .i64 n, .int .i64 m, dv, .int .u32 pat] := by rw [hO]; rfl
  have hOk : O.kind = 10 := by rw [hO]
  unfold OpV.cells
  simp only
  obtain ⟨w1, hw1⟩ : ∃ w1, w1 = w.alloc (.cells #[.int .i64 10, .int .i64 dn, .int .i64 n, .int .i64 m, dv, .int .u32 pat] 80 (0, 0)) := ⟨_, rfl⟩
  have h1 : RowAt w0 b es [opT g0 O] w1 := h.add (w' := w1) (t := opT g0 O) (by rw [hw1]; exact (Keeps.refl _ _).alloc _) (show w1.heap[g0]? = some (.cells O.cells 80 (0, 0)) by rw [hw1, hOc]; exact heap_new_at hg0) (fun i hi => .inr (by simp [opT, blockThing] at hi; omega))
  have hcells : ∀ (wx : World) (zs : List En) (M : List Thing), RowAt w0 b zs M wx → opT g0 O ∈ M → wx.cell? ⟨g0, 0, none⟩ = some (.int .i64 10) ∧ wx.cell? ⟨g0, 1, none⟩ = some (.int .i64 dn) ∧ wx.cell? ⟨g0, 2, none⟩ = some (.int .i64 n) ∧ wx.cell? ⟨g0, 3, none⟩ = some (.int .i64 m) := by
    intro wx zs M hx hm
    obtain ⟨c0, c1, c2, c3, c4, c5⟩ := OpV.cellsAt (hx.op hm)
    rw [hO] at c0 c1 c2 c3
    exact ⟨c0, c1, c2, c3⟩
  obtain ⟨N, hNN⟩ : ∃ N, N = es.length := ⟨_, rfl⟩
  obtain ⟨p, hp⟩ : ∃ p : Nat, p = (dn % (N : Int)).toNat := ⟨_, rfl⟩
  have hN0 : (0 : Int) < (N : Int) := by omega
  have hm1 := Int.emod_nonneg dn (show (N : Int) ≠ 0 by omega)
  have hm2 := Int.emod_lt_of_pos dn hN0
  have hpz : (p : Int) = dn % (N : Int) := by omega
  have hpN : p < N := by omega
  have hng : dn.tmod (N : Int) < 0 → dn.tmod (N : Int) + (N : Int) = (p : Int) := fun hs => by rw [emod_of_neg hN0 hs, hpz]
  have hps : ¬ dn.tmod (N : Int) < 0 → dn.tmod (N : Int) = (p : Int) := fun hs => by rw [emod_of_nonneg hN0 (by omega), hpz]
  have hlo : -(N : Int) < dn.tmod (N : Int) := Int.lt_tmod_of_pos dn hN0
  obtain ⟨gd, od, cd, q0, _, _⟩ := h1.disks h0
  have HOC := Lib.hid hOc
  have HOK := Lib.hid hOk
  have HC := Lib.hid hcells
  have H1 := Lib.hid h1
  have HW1 := Lib.hid hw1
  have HG0 := Lib.hid hg0
  have HE := Lib.hid hE
  have HNN := Lib.hid hNN
  have HNG := Lib.hid hng
  have HPS := Lib.hid hps
  obtain ⟨p0, p1, p2, p3⟩ := hcells _ _ _ h1 (by simp)
  rw [← hNN] at q0 h0 hN
  clear h h1 hw1 hO hOc hOk hcells hg0 hE ho hNN hng hps hpz hm1 hm2 hp
  go_enter Try.func32, Try.ntmps32
  go_upto_region 1 with fail
  rw [← HW1.out, ← HG0.out]
  go_quiet (fail)
  go_upto_if 27 with fail
  go_cut [5] (fun s wx => s = .int .i64 p ∧ RowAt w0 b es [opT g0 O] wx)
  case first =>
    by_cases hs : dn.tmod (N : Int) < 0
    · go_wp2_with fail
      go_meet
      case rel => exact ⟨by rw [HNG.out hs], H1.out.keep ((Keeps.refl _ _).drewN _)⟩
    · go_wp2_with fail
      go_meet
      case rel => exact ⟨by rw [HPS.out hs], H1.out.keep ((Keeps.refl _ _).drewN _)⟩
  case rest =>
    obtain ⟨rfl, h2⟩ := hcut
    obtain ⟨w2, rfl⟩ : ∃ w2 : World, w2 = wc := ⟨_, rfl⟩
    clear hlo H1 p0 p1 p2 p3 q0
    obtain ⟨xs, e, ys, hes, hxl⟩ : ∃ xs e ys, es = xs ++ e :: ys ∧ xs.length = p := by
      have hpl : p < es.length := by rw [← HNN.out]; exact hpN
      exact ⟨es.take p, es[p], es.drop (p + 1), by rw [← List.drop_eq_getElem_cons hpl, List.take_append_drop], by rw [List.length_take]; omega⟩
    have hep : es[p]? = some e := by rw [hes, ← hxl, List.getElem?_append_right (Nat.le_refl _), Nat.sub_self]; rfl
    obtain ⟨gd, od, cd, q0, qd, gr, orr, cr, q1, qr, lc1, lc2⟩ := h2.disks (by rw [← HNN.out]; exact h0)
    have qd1 := qd p e hep
    have qr1 := qr p e hep
    rw [← HNN.out] at q0 q1 lc1 lc2
    have hEe := HE.out e (by rw [hes]; simp)
    have hEx : ∀ e' L', L ≤ L' → EnOk e' L' → ∀ e2 ∈ xs ++ e' :: ys, EnOk e2 L' := fun e' L' hLL he' e2 he2 => by
      rcases List.mem_append.1 he2 with he2 | he2
      · exact (HE.out e2 (by rw [hes]; simp [he2])).mono hLL
      · rcases List.mem_cons.1 he2 with rfl | he2
        · exact he'
        · exact (HE.out e2 (by rw [hes]; simp [he2])).mono hLL
    have hlen : ∀ e', (xs ++ e' :: ys).length = N := fun e' => by rw [HNN.out, hes]; simp
    have HES := Lib.hid hes
    have HEP := Lib.hid hEe
    have HEX := Lib.hid hEx
    have HLEN := Lib.hid hlen
    have H2 := Lib.hid h2
    have i0 : (0 : Int) ≤ (p : Int) := by omega
    have i1 : (p : Int) < (N : Int) := by omega
    obtain ⟨p0, p1, p2, p3⟩ := HC.out _ _ _ h2 (by simp)
    clear hep qd qr h2 hes hEe hEx hlen hxl
    go_upto_region 6 with fail
    clear q0 q1 qd1 qr1
    have hem : e ∈ es := by rw [HES.out]; simp
    have CD := Lib.hid (dIm_any (H2.out.disk hem))
    have hl2 : e.d.img.length ≤ 16777216 := by
      have h3 := (H2.out.disk hem).ok
      rw [h3.2.2.1]
      have := HEP.out.n
      omega
    have HM := Lib.hid hem
    clear hem
    go_wp2_with fail
    refine CD.out.mono ?_
    rintro x w3 ⟨v1, rfl, hO3, hf3, hk3⟩
    have h3 := H2.out.add hk3 (t := bytesThing v1 e.d.img) hO3 (fun i hi => .inr (hf3 i (by simpa [bytesThing] using hi)))
    have CE := Lib.hid (rfIm_any (h3.ref HM.out) HEP.out.like HEP.out.n (by have := HEP.out.log; omega))
    obtain ⟨p0, p1, p2, p3⟩ := HC.out _ _ _ h3 (by simp)
    have H3 := Lib.hid h3
    clear h3 hO3 hf3 hk3 CD H2
    go_wp2_with fail
    refine CE.out.mono ?_
    rintro x w4 ⟨v2, rfl, hO4, hf4, hk4⟩
    have h4 := H3.out.add hk4 (t := bytesThing v2 e.d.img) hO4 (fun i hi => .inr (hf4 i (by simpa [bytesThing] using hi)))
    have CD2 := Lib.hid (dIm_any (w := w4.drew) (DiskAt.keep (h4.disk HM.out) (fun _ _ => rfl)))
    obtain ⟨p0, p1, p2, p3⟩ := HC.out _ _ _ h4 (by simp)
    have H4 := Lib.hid h4
    clear h4 hO4 hf4 hk4 CE H3
    go_upto_region 20 with fail
    refine rl_start (fun wy => wy.cell? ⟨g0, 3, none⟩ = some (.int .i64 m)) 9 (by kernel_rfl) ?_ (fun hHeld => ?_)
    · exact p3
    refine' rl_take (i := 0) (v := _) rfl (by kernel_rfl) (by kernel_rfl) (by kernel_rfl) (by kernel_rfl) (fun _ _ _ h => h) (Or.inl ⟨by rfl, ?_⟩) (by assumption) ?_
    rotate_left 1
    · (intro w0 hSw; (try dsimp only at hSw); go_split_ands; go_simp; (try with_reducible rfl))
    try simp only [Act.put, List.setIfInBounds_toArray, List.set_cons_zero, List.set_cons_succ, List.getElem_toArray, List.getElem_cons_zero, List.getElem_cons_succ]
    refine' rl_take (i := 1) (v := _) rfl (by kernel_rfl) (by kernel_rfl) (by kernel_rfl) (by kernel_rfl) (fun _ _ _ h => h) (Or.inl ⟨by rfl, ?_⟩) (by assumption) ?_
    rotate_left 1
    · (intro w0 hSw; (try dsimp only at hSw); go_split_ands; go_simp; (try with_reducible rfl))
    try simp only [Act.put, List.setIfInBounds_toArray, List.set_cons_zero, List.set_cons_succ, List.getElem_toArray, List.getElem_cons_zero, List.getElem_cons_succ]
    refine' rl_take (i := 2) (v := _) rfl (by kernel_rfl) (by kernel_rfl) (by kernel_rfl) (by kernel_rfl) (fun _ _ _ h => h) (Or.inl ⟨by rfl, ?_⟩) (by assumption) ?_
    rotate_left 1
    · (intro w0 hSw; (try dsimp only at hSw); go_split_ands; go_simp; (try with_reducible rfl))
    try simp only [Act.put, List.setIfInBounds_toArray, List.set_cons_zero, List.set_cons_succ, List.getElem_toArray, List.getElem_cons_zero, List.getElem_cons_succ]
    refine' rl_take (i := 4) (v := _) rfl (by kernel_rfl) (by kernel_rfl) (by kernel_rfl) (by kernel_rfl) (fun _ _ _ h => h) (Or.inl ⟨by rfl, ?_⟩) (by assumption) ?_
    rotate_left 1
    · (intro w0 hSw; (try dsimp only at hSw); go_split_ands; go_simp; (try with_reducible rfl))
    try simp only [Act.put, List.setIfInBounds_toArray, List.set_cons_zero, List.set_cons_succ, List.getElem_toArray, List.getElem_cons_zero, List.getElem_cons_succ]
    refine' rl_take (i := 5) (v := _) rfl (by kernel_rfl) (by kernel_rfl) (by kernel_rfl) (by kernel_rfl) (fun _ _ _ h => h) (Or.inl ⟨by rfl, ?_⟩) (by assumption) ?_
    rotate_left 1
    · (intro w0 hSw; (try dsimp only at hSw); go_split_ands; go_simp; (try with_reducible rfl))
    try simp only [Act.put, List.setIfInBounds_toArray, List.set_cons_zero, List.set_cons_succ, List.getElem_toArray, List.getElem_cons_zero, List.getElem_cons_succ]
    refine' rl_take (i := 6) (v := _) rfl (by kernel_rfl) (by kernel_rfl) (by kernel_rfl) (by kernel_rfl) (fun _ _ _ h => h) (Or.inl ⟨by rfl, ?_⟩) (by assumption) ?_
    rotate_left 1
    · (intro w0 hSw; (try dsimp only at hSw); go_split_ands; go_simp; (try with_reducible rfl))
    try simp only [Act.put, List.setIfInBounds_toArray, List.set_cons_zero, List.set_cons_succ, List.getElem_toArray, List.getElem_cons_zero, List.getElem_cons_succ]
    refine' rl_take (i := 7) (v := _) rfl (by kernel_rfl) (by kernel_rfl) (by kernel_rfl) (by kernel_rfl) (fun _ _ _ h => h) (Or.inl ⟨by rfl, ?_⟩) (by assumption) ?_
    rotate_left 1
    · (intro w0 hSw; (try dsimp only at hSw); go_split_ands; go_simp; (try with_reducible rfl))
    try simp only [Act.put, List.setIfInBounds_toArray, List.set_cons_zero, List.set_cons_succ, List.getElem_toArray, List.getElem_cons_zero, List.getElem_cons_succ]
    refine rl_act (i := 3) (by kernel_rfl) rfl (fun K hK => ?_)
    go_simp
    refine CD2.out.mono ?_
    rintro x w5 ⟨v3, rfl, hO5, hf5, hk5⟩
    have h5 := (H4.out.keep (Keeps.refl _ w4).drew).add hk5 (t := bytesThing v3 e.d.img) hO5 (fun i hi => .inr (hf5 i (by simpa [bytesThing] using hi)))
    obtain ⟨p0', p1', p2', p3'⟩ := HC.out _ _ _ h5 (by simp)
    have CT := Lib.hid (told_thing m (h5.perm (N := bytesThing v1 e.d.img :: bytesThing v3 e.d.img :: [bytesThing v2 e.d.img, opT g0 O]) (perm_of fun t => by simp only [tcnt_cons]; omega)) (c1 := v2) (c2 := v2) (by simp) (by simp) hl2)
    clear h5 hO5 hf5 hk5 CD2 H4
    refine hK.out _ _ ?_ (fun hHeld => ?_)
    · exact p3'
    clear hK K
    try simp only [Act.put, List.setIfInBounds_toArray, List.set_cons_zero, List.set_cons_succ, List.getElem_toArray, List.getElem_cons_zero, List.getElem_cons_succ]
    refine rl_act (i := 8) (by kernel_rfl) rfl (fun K hK => ?_)
    go_simp
    refine CT.out.mono ?_
    rintro x w6 ⟨rfl, h6⟩
    obtain ⟨q0', q1', q2', q3'⟩ := HC.out _ _ _ h6 (by simp)
    have H6 := Lib.hid (h6.sub (List.nil_sublist _))
    clear h6 CT
    refine hK.out _ _ ?_ (fun hHeld => ?_)
    · exact q3'
    clear hK K
    try simp only [Act.put, List.setIfInBounds_toArray, List.set_cons_zero, List.set_cons_succ, List.getElem_toArray, List.getElem_cons_zero, List.getElem_cons_succ]
    refine rl_last (by kernel_rfl) (by kernel_rfl) rfl (fun K hK => ?_)
    go_simp
    refine hK.out _ _ ?_
    clear hK K
    try simp only [Act.put, List.setIfInBounds_toArray, List.set_cons_zero, List.set_cons_succ, List.getElem_toArray, List.getElem_cons_zero, List.getElem_cons_succ]
    clear hHeld p0 p1 p2 p3 p0' p1' p2' p3' q0' q1' q2' q3'
    go_wp2_with fail
    have HF := Lib.hid (H6.out)
    go_ret
    exact ⟨rfl, es, by rw [← HNN.out]; exact h0, by omega, fun e2 he2 => (HE.out e2 he2).mono (by omega), HF.out⟩
set_option maxRecDepth 100000 in
set_option maxHeartbeats 2000000 in
theorem plays_make {w0 w : World} {b L : Nat} {es : List En} {o : OpV} (h : RowAt w0 b es [] w) (ho : o.ok w0) (hE : ∀ e ∈ es, EnOk e L) (hL : L ≤ 4294967000) (h0 : 0 < es.length) (hN : es.length ≤ 4294967290) (hk : o.kind = 1 ∨ o.kind = 2 ∨ o.kind = 3) :
    Calls Try.prog 32 #[.pointer (some ⟨b, 0, none⟩), .agg o.cells] w (PlayPost w0 b es.length L) := by
  have HO := Lib.hid ho
  obtain ⟨kind, dn, n, m, dv, data, pat⟩ := o
  simp only at hk
  have hdd := ho.dd
  have hnn := ho.nn
  have hmm := ho.mm
  simp only at hdd hnn hmm
  obtain ⟨g0, hg0⟩ : ∃ g0, g0 = w.heap.size := ⟨_, rfl⟩
  obtain ⟨O, hO⟩ : ∃ O : OpV, O = ⟨kind, dn, n, m, dv, data, pat⟩ := ⟨_, rfl⟩
  rw [← hO] at HO
  have hOc : O.cells = #[.int .i64 kind, .int .i64 dn, .int .i64 n, .int .i64 m, dv, .int .u32 pat] := by rw [hO]; rfl
  have hOk : O.kind = kind := by rw [hO]
  unfold OpV.cells
  simp only
  obtain ⟨w1, hw1⟩ : ∃ w1, w1 = w.alloc (.cells #[.int .i64 kind, .int .i64 dn, .int .i64 n, .int .i64 m, dv, .int .u32 pat] 80 (0, 0)) := ⟨_, rfl⟩
  have h1 : RowAt w0 b es [opT g0 O] w1 := h.add (w' := w1) (t := opT g0 O) (by rw [hw1]; exact (Keeps.refl _ _).alloc _) (show w1.heap[g0]? = some (.cells O.cells 80 (0, 0)) by rw [hw1, hOc]; exact heap_new_at hg0) (fun i hi => .inr (by simp [opT, blockThing] at hi; omega))
  have hcells : ∀ (wx : World) (zs : List En) (M : List Thing), RowAt w0 b zs M wx → opT g0 O ∈ M → wx.cell? ⟨g0, 0, none⟩ = some (.int .i64 kind) ∧ wx.cell? ⟨g0, 1, none⟩ = some (.int .i64 dn) ∧ wx.cell? ⟨g0, 2, none⟩ = some (.int .i64 n) ∧ wx.cell? ⟨g0, 3, none⟩ = some (.int .i64 m) := by
    intro wx zs M hx hm
    obtain ⟨c0, c1, c2, c3, c4, c5⟩ := OpV.cellsAt (hx.op hm)
    rw [hO] at c0 c1 c2 c3
    exact ⟨c0, c1, c2, c3⟩
  obtain ⟨N, hNN⟩ : ∃ N, N = es.length := ⟨_, rfl⟩
  obtain ⟨p, hp⟩ : ∃ p : Nat, p = (dn % (N : Int)).toNat := ⟨_, rfl⟩
  have hN0 : (0 : Int) < (N : Int) := by omega
  have hm1 := Int.emod_nonneg dn (show (N : Int) ≠ 0 by omega)
  have hm2 := Int.emod_lt_of_pos dn hN0
  have hpz : (p : Int) = dn % (N : Int) := by omega
  have hpN : p < N := by omega
  have hng : dn.tmod (N : Int) < 0 → dn.tmod (N : Int) + (N : Int) = (p : Int) := fun hs => by rw [emod_of_neg hN0 hs, hpz]
  have hps : ¬ dn.tmod (N : Int) < 0 → dn.tmod (N : Int) = (p : Int) := fun hs => by rw [emod_of_nonneg hN0 (by omega), hpz]
  have hlo : -(N : Int) < dn.tmod (N : Int) := Int.lt_tmod_of_pos dn hN0
  obtain ⟨gd, od, cd, q0, _, _⟩ := h1.disks h0
  have HOC := Lib.hid hOc
  have HOK := Lib.hid hOk
  have HC := Lib.hid hcells
  have H1 := Lib.hid h1
  have HW1 := Lib.hid hw1
  have HG0 := Lib.hid hg0
  have HE := Lib.hid hE
  have HNN := Lib.hid hNN
  have HNG := Lib.hid hng
  have HPS := Lib.hid hps
  obtain ⟨p0, p1, p2, p3⟩ := hcells _ _ _ h1 (by simp)
  rw [← hNN] at q0 h0 hN
  clear h h1 hw1 hO hOc hOk hcells hg0 hE ho hNN hng hps hpz hm1 hm2 hp
  go_enter Try.func32, Try.ntmps32
  go_upto_region 1 with fail
  rw [← HW1.out, ← HG0.out]
  go_quiet (fail)
  go_upto_if 27 with fail
  go_cut [5] (fun s wx => s = .int .i64 p ∧ RowAt w0 b es [opT g0 O] wx)
  case first =>
    by_cases hs : dn.tmod (N : Int) < 0
    · go_wp2_with fail
      go_meet
      case rel => exact ⟨by rw [HNG.out hs], H1.out.keep ((Keeps.refl _ _).drewN _)⟩
    · go_wp2_with fail
      go_meet
      case rel => exact ⟨by rw [HPS.out hs], H1.out.keep ((Keeps.refl _ _).drewN _)⟩
  case rest =>
    obtain ⟨rfl, h2⟩ := hcut
    obtain ⟨w2, rfl⟩ : ∃ w2 : World, w2 = wc := ⟨_, rfl⟩
    clear hlo H1 p0 p1 p2 p3 q0
    obtain ⟨xs, e, ys, hes, hxl⟩ : ∃ xs e ys, es = xs ++ e :: ys ∧ xs.length = p := by
      have hpl : p < es.length := by rw [← HNN.out]; exact hpN
      exact ⟨es.take p, es[p], es.drop (p + 1), by rw [← List.drop_eq_getElem_cons hpl, List.take_append_drop], by rw [List.length_take]; omega⟩
    have hep : es[p]? = some e := by rw [hes, ← hxl, List.getElem?_append_right (Nat.le_refl _), Nat.sub_self]; rfl
    obtain ⟨gd, od, cd, q0, qd, gr, orr, cr, q1, qr, lc1, lc2⟩ := h2.disks (by rw [← HNN.out]; exact h0)
    have qd1 := qd p e hep
    have qr1 := qr p e hep
    rw [← HNN.out] at q0 q1 lc1 lc2
    have hEe := HE.out e (by rw [hes]; simp)
    have hEx : ∀ e' L', L ≤ L' → EnOk e' L' → ∀ e2 ∈ xs ++ e' :: ys, EnOk e2 L' := fun e' L' hLL he' e2 he2 => by
      rcases List.mem_append.1 he2 with he2 | he2
      · exact (HE.out e2 (by rw [hes]; simp [he2])).mono hLL
      · rcases List.mem_cons.1 he2 with rfl | he2
        · exact he'
        · exact (HE.out e2 (by rw [hes]; simp [he2])).mono hLL
    have hlen : ∀ e', (xs ++ e' :: ys).length = N := fun e' => by rw [HNN.out, hes]; simp
    have HES := Lib.hid hes
    have HEP := Lib.hid hEe
    have HEX := Lib.hid hEx
    have HLEN := Lib.hid hlen
    have H2 := Lib.hid h2
    have i0 : (0 : Int) ≤ (p : Int) := by omega
    have i1 : (p : Int) < (N : Int) := by omega
    obtain ⟨p0, p1, p2, p3⟩ := HC.out _ _ _ h2 (by simp)
    clear hep qd qr h2 hes hEe hEx hlen hxl
    go_upto_region 6 with fail
    clear q0 q1 qd1 qr1
    have hld := fun (wx : World) (hx : RowAt w0 b es [opT g0 O] wx) => run_loadAt_mid (P := Try.prog) wx g0 0 80 O.cells.toList _ (by
      have := rangeAt_all (w := wx) (b := g0) (cs := O.cells.toList) (by have h9 := hx.op (g := g0) (o := O) (by simp); simpa using h9)
      exact this) Try.underlying80 rfl (by rw [HOC.out]; kernel_rfl)
    have hld2 : (Instr.loadAt 80 (.pointer (some ⟨g0, 0, none⟩))).run Try.prog w2 = .ok (.agg #[.int .i64 kind, .int .i64 dn, .int .i64 n, .int .i64 m, dv, .int .u32 pat]) w2 := by
      have := hld w2 H2.out
      rw [HOC.out] at this
      exact this
    have HLD := Lib.hid hld2
    clear hld hld2
    have cm := makes_any p (H2.out.sub (List.nil_sublist _)) HO.out (by rw [HOK.out]; exact hk) (by rw [← HNN.out]; exact hpN) HE.out hL (by rw [← HNN.out]; omega)
    rw [HOC.out] at cm
    have CM := Lib.hid cm
    have HK := Lib.hid hk
    clear cm hk
    rcases HK.out with rfl | rfl | rfl
    all_goals
      go_wp2_with (refine wl_load rfl 80 (.tmp 3) rfl ?_; refine ⟨_, _, HLD.out, ?_⟩; try simp only [Act.put, List.setIfInBounds_toArray, List.set_cons_zero, List.set_cons_succ, List.getElem_toArray, List.getElem_cons_zero, List.getElem_cons_succ])
      refine CM.out.mono ?_
      rintro x w3 ⟨rfl, es2, hl2, hE2, hR2⟩
      have HR2 := Lib.hid hR2
      have HE2 := Lib.hid hE2
      clear hR2 hE2
      go_wp2_with fail
      go_ret
      refine ⟨rfl, es ++ es2, by have := HNN.out; rw [List.length_append]; omega, by rw [List.length_append]; omega, fun e2 he2 => ?_, HR2.out⟩
      rcases List.mem_append.1 he2 with he2 | he2
      · exact (HE.out e2 he2).mono (by omega)
      · exact (HE2.out e2 he2).mono (by omega)
set_option maxRecDepth 100000 in
set_option maxHeartbeats 2000000 in
theorem plays_act {w0 w : World} {b L : Nat} {es : List En} {o : OpV} (h : RowAt w0 b es [] w) (ho : o.ok w0) (hE : ∀ e ∈ es, EnOk e L) (hL : L ≤ 4294967000) (h0 : 0 < es.length) (hN : es.length ≤ 4294967290) (hk : o.kind ≠ 1 ∧ o.kind ≠ 2 ∧ o.kind ≠ 3 ∧ o.kind ≠ 4 ∧ o.kind ≠ 10 ∧ o.kind ≠ 11 ∧ o.kind ≠ 12 ∧ o.kind ≠ 14 ∧ o.kind ≠ 15) :
    Calls Try.prog 32 #[.pointer (some ⟨b, 0, none⟩), .agg o.cells] w (PlayPost w0 b es.length L) := by
  have HO := Lib.hid ho
  obtain ⟨kind, dn, n, m, dv, data, pat⟩ := o
  simp only at hk
  obtain ⟨k1, k2, k3, k4, k10, k11, k12, k14, k15⟩ := hk
  have j1 : (kind == 1) = false := by simpa using k1
  have j2 : (kind == 2) = false := by simpa using k2
  have j3 : (kind == 3) = false := by simpa using k3
  have j4 : (kind == 4) = false := by simpa using k4
  have j10 : (kind == 10) = false := by simpa using k10
  have j11 : (kind == 11) = false := by simpa using k11
  have j12 : (kind == 12) = false := by simpa using k12
  have j14 : (kind == 14) = false := by simpa using k14
  have j15 : (kind == 15) = false := by simpa using k15
  clear k1 k2 k3 k4 k10 k11 k12 k14 k15
  have hdd := ho.dd
  have hnn := ho.nn
  have hmm := ho.mm
  simp only at hdd hnn hmm
  obtain ⟨g0, hg0⟩ : ∃ g0, g0 = w.heap.size := ⟨_, rfl⟩
  obtain ⟨O, hO⟩ : ∃ O : OpV, O = ⟨kind, dn, n, m, dv, data, pat⟩ := ⟨_, rfl⟩
  rw [← hO] at HO
  have hOc : O.cells = #[.int .i64 kind, .int .i64 dn, .int .i64 n, .int .i64 m, dv, .int .u32 pat] := by rw [hO]; rfl
  have hOk : O.kind = kind := by rw [hO]
  unfold OpV.cells
  simp only
  obtain ⟨w1, hw1⟩ : ∃ w1, w1 = w.alloc (.cells #[.int .i64 kind, .int .i64 dn, .int .i64 n, .int .i64 m, dv, .int .u32 pat] 80 (0, 0)) := ⟨_, rfl⟩
  have h1 : RowAt w0 b es [opT g0 O] w1 := h.add (w' := w1) (t := opT g0 O) (by rw [hw1]; exact (Keeps.refl _ _).alloc _) (show w1.heap[g0]? = some (.cells O.cells 80 (0, 0)) by rw [hw1, hOc]; exact heap_new_at hg0) (fun i hi => .inr (by simp [opT, blockThing] at hi; omega))
  have hcells : ∀ (wx : World) (zs : List En) (M : List Thing), RowAt w0 b zs M wx → opT g0 O ∈ M → wx.cell? ⟨g0, 0, none⟩ = some (.int .i64 kind) ∧ wx.cell? ⟨g0, 1, none⟩ = some (.int .i64 dn) ∧ wx.cell? ⟨g0, 2, none⟩ = some (.int .i64 n) ∧ wx.cell? ⟨g0, 3, none⟩ = some (.int .i64 m) := by
    intro wx zs M hx hm
    obtain ⟨c0, c1, c2, c3, c4, c5⟩ := OpV.cellsAt (hx.op hm)
    rw [hO] at c0 c1 c2 c3
    exact ⟨c0, c1, c2, c3⟩
  obtain ⟨N, hNN⟩ : ∃ N, N = es.length := ⟨_, rfl⟩
  obtain ⟨p, hp⟩ : ∃ p : Nat, p = (dn % (N : Int)).toNat := ⟨_, rfl⟩
  have hN0 : (0 : Int) < (N : Int) := by omega
  have hm1 := Int.emod_nonneg dn (show (N : Int) ≠ 0 by omega)
  have hm2 := Int.emod_lt_of_pos dn hN0
  have hpz : (p : Int) = dn % (N : Int) := by omega
  have hpN : p < N := by omega
  have hng : dn.tmod (N : Int) < 0 → dn.tmod (N : Int) + (N : Int) = (p : Int) := fun hs => by rw [emod_of_neg hN0 hs, hpz]
  have hps : ¬ dn.tmod (N : Int) < 0 → dn.tmod (N : Int) = (p : Int) := fun hs => by rw [emod_of_nonneg hN0 (by omega), hpz]
  have hlo : -(N : Int) < dn.tmod (N : Int) := Int.lt_tmod_of_pos dn hN0
  obtain ⟨gd, od, cd, q0, _, _⟩ := h1.disks h0
  have HOC := Lib.hid hOc
  have HOK := Lib.hid hOk
  have HC := Lib.hid hcells
  have H1 := Lib.hid h1
  have HW1 := Lib.hid hw1
  have HG0 := Lib.hid hg0
  have HE := Lib.hid hE
  have HNN := Lib.hid hNN
  have HNG := Lib.hid hng
  have HPS := Lib.hid hps
  obtain ⟨p0, p1, p2, p3⟩ := hcells _ _ _ h1 (by simp)
  rw [← hNN] at q0 h0 hN
  clear h h1 hw1 hO hOc hOk hcells hg0 hE ho hNN hng hps hpz hm1 hm2 hp
  go_enter Try.func32, Try.ntmps32
  go_upto_region 1 with fail
  rw [← HW1.out, ← HG0.out]
  go_quiet (fail)
  go_upto_if 27 with fail
  go_cut [5] (fun s wx => s = .int .i64 p ∧ RowAt w0 b es [opT g0 O] wx)
  case first =>
    by_cases hs : dn.tmod (N : Int) < 0
    · go_wp2_with fail
      go_meet
      case rel => exact ⟨by rw [HNG.out hs], H1.out.keep ((Keeps.refl _ _).drewN _)⟩
    · go_wp2_with fail
      go_meet
      case rel => exact ⟨by rw [HPS.out hs], H1.out.keep ((Keeps.refl _ _).drewN _)⟩
  case rest =>
    obtain ⟨rfl, h2⟩ := hcut
    obtain ⟨w2, rfl⟩ : ∃ w2 : World, w2 = wc := ⟨_, rfl⟩
    clear hlo H1 p0 p1 p2 p3 q0
    obtain ⟨xs, e, ys, hes, hxl⟩ : ∃ xs e ys, es = xs ++ e :: ys ∧ xs.length = p := by
      have hpl : p < es.length := by rw [← HNN.out]; exact hpN
      exact ⟨es.take p, es[p], es.drop (p + 1), by rw [← List.drop_eq_getElem_cons hpl, List.take_append_drop], by rw [List.length_take]; omega⟩
    have hep : es[p]? = some e := by rw [hes, ← hxl, List.getElem?_append_right (Nat.le_refl _), Nat.sub_self]; rfl
    obtain ⟨gd, od, cd, q0, qd, gr, orr, cr, q1, qr, lc1, lc2⟩ := h2.disks (by rw [← HNN.out]; exact h0)
    have qd1 := qd p e hep
    have qr1 := qr p e hep
    rw [← HNN.out] at q0 q1 lc1 lc2
    have hEe := HE.out e (by rw [hes]; simp)
    have hEx : ∀ e' L', L ≤ L' → EnOk e' L' → ∀ e2 ∈ xs ++ e' :: ys, EnOk e2 L' := fun e' L' hLL he' e2 he2 => by
      rcases List.mem_append.1 he2 with he2 | he2
      · exact (HE.out e2 (by rw [hes]; simp [he2])).mono hLL
      · rcases List.mem_cons.1 he2 with rfl | he2
        · exact he'
        · exact (HE.out e2 (by rw [hes]; simp [he2])).mono hLL
    have hlen : ∀ e', (xs ++ e' :: ys).length = N := fun e' => by rw [HNN.out, hes]; simp
    have HES := Lib.hid hes
    have HEP := Lib.hid hEe
    have HEX := Lib.hid hEx
    have HLEN := Lib.hid hlen
    have H2 := Lib.hid h2
    have i0 : (0 : Int) ≤ (p : Int) := by omega
    have i1 : (p : Int) < (N : Int) := by omega
    obtain ⟨p0, p1, p2, p3⟩ := HC.out _ _ _ h2 (by simp)
    clear hep qd qr h2 hes hEe hEx hlen hxl
    go_upto_region 6 with fail
    clear q0 q1 qd1 qr1
    have hld := fun (wx : World) (hx : RowAt w0 b es [opT g0 O] wx) => run_loadAt_mid (P := Try.prog) wx g0 0 80 O.cells.toList _ (by
      have := rangeAt_all (w := wx) (b := g0) (cs := O.cells.toList) (by have h9 := hx.op (g := g0) (o := O) (by simp); simpa using h9)
      exact this) Try.underlying80 rfl (by rw [HOC.out]; kernel_rfl)
    have hld2 : (Instr.loadAt 80 (.pointer (some ⟨g0, 0, none⟩))).run Try.prog w2 = .ok (.agg #[.int .i64 kind, .int .i64 dn, .int .i64 n, .int .i64 m, dv, .int .u32 pat]) w2 := by
      have := hld w2 H2.out
      rw [HOC.out] at this
      exact this
    have HLD := Lib.hid hld2
    clear hld hld2
    have h2s := H2.out.sub (List.nil_sublist _)
    rw [HES.out] at h2s
    have cm := acts_any h2s HO.out HEP.out hL
    rw [HOC.out] at cm
    have CM := Lib.hid cm
    clear cm h2s
    go_wp2_with (refine wl_load rfl 80 (.tmp 3) rfl ?_; refine ⟨_, _, HLD.out, ?_⟩; try simp only [Act.put, List.setIfInBounds_toArray, List.set_cons_zero, List.set_cons_succ, List.getElem_toArray, List.getElem_cons_zero, List.getElem_cons_succ])
    refine CM.out.mono ?_
    rintro x w3 ⟨rfl, e', hE', hR'⟩
    have HR2 := Lib.hid hR'
    have HE2 := Lib.hid hE'
    clear hR' hE'
    go_wp2_with fail
    go_ret
    exact ⟨rfl, _, by rw [HLEN.out]; exact h0, by rw [HLEN.out, HNN.out]; omega, HEX.out _ _ (by omega) HE2.out, HR2.out⟩
end Go.Proofs.Ytbjffjplpnnhoaa
