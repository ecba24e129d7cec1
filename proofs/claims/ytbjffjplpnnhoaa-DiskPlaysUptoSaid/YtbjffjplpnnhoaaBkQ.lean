/-
  The row of disks of layer 4's law: a disk made, and the document's; they join the row.
-/
import Derived.Test.YtbjffjplpnnhoaaBkP
namespace Go.Proofs.Ytbjffjplpnnhoaa
set_option linter.unusedVariables false
set_option linter.unusedSimpArgs false
open Go.RowKit

/-- What the first of the two makers has answered. -/
def Half (c : Int) (d : D) (pv : Value) (T : List Thing) : Prop := (c ≠ 0 ∧ pv = .pointer none ∧ T = []) ∨ (c = 0 ∧ ∃ bd F, pv = .pointer (some ⟨bd, 0, none⟩) ∧ T = [diskThing bd d F])
/-- What both have answered. -/
def Pair (c : Int) (d : D) (r : R) (pv rv : Value) (es2 : List En) : Prop := (c ≠ 0 ∧ pv = .pointer none ∧ rv = .pointer none ∧ es2 = []) ∨ (c = 0 ∧ ∃ bd F br F', pv = .pointer (some ⟨bd, 0, none⟩) ∧ rv = .pointer (some ⟨br, 0, none⟩) ∧ es2 = [⟨bd, d, F, br, r, F'⟩])
def newC (n : Int) : Int := if n < 3 ∨ 4096 < n then 40 else 0
def loadC (n : Nat) : Int := if n % 256 ≠ 0 then 42 else if n / 256 < 3 ∨ 4096 < n / 256 then 40 else 0
section
variable {w0 w : World} {b : Nat} {es : List En} {M : List Thing}
theorem new_first (h : RowAt w0 b es M w) (n : Int) {c : Int} (hc : newC n = c) :
    Calls Try.prog 35 #[.int .i64 n] w fun x w' => ∃ pv T, x = .returned (.tuple #[pv, .int .i64 c]) ∧ RowAt w0 b es (T ++ M) w' ∧ Half c (D.new n.toNat) pv T := by
  subst hc
  unfold newC
  split
  · rename_i hn
    refine (dNew_no n hn).mono ?_
    rintro x w' ⟨rfl, rfl⟩
    exact ⟨_, [], rfl, h, .inl ⟨by omega, rfl, rfl⟩⟩
  · rename_i hn
    obtain ⟨p, rfl⟩ : ∃ p : Nat, n = p := ⟨n.toNat, by omega⟩
    refine (dNew_yes p (by omega) (by omega)).mono ?_
    rintro x w' ⟨rfl, hk, F, hD, hf⟩
    exact ⟨_, [diskThing (w.heap.size + 2) (D.new p) F], rfl, h.add hk (t := diskThing (w.heap.size + 2) (D.new p) F) hD hf, .inr ⟨rfl, _, F, rfl, by rw [Int.toNat_natCast]⟩⟩
theorem new_second {T : List Thing} (h : RowAt w0 b es (T ++ M) w) (n : Int) {c : Int} (hc : newC n = c) {pv : Value} (hh : Half c (D.new n.toNat) pv T) :
    Calls Try.prog 39 #[.int .i64 n] w fun x w' => ∃ rv es2, x = .returned (.tuple #[rv, .int .i64 c]) ∧ RowAt w0 b es (es2.flatMap En.things ++ M) w' ∧ Pair c (D.new n.toNat) (R.new (List.replicate (256 * n.toNat) 0)) pv rv es2 := by
  subst hc
  unfold newC at hh ⊢
  split at hh
  · rename_i hn
    rw [if_pos hn]
    refine (rfNew_no n hn).mono ?_
    rintro x w' ⟨rfl, rfl⟩
    rcases hh with ⟨_, rfl, rfl⟩ | ⟨h0, _⟩
    · exact ⟨_, [], rfl, h, .inl ⟨by omega, rfl, rfl, rfl⟩⟩
    · omega
  · rename_i hn
    rw [if_neg hn]
    obtain ⟨p, rfl⟩ : ∃ p : Nat, n = p := ⟨n.toNat, by omega⟩
    rw [Int.toNat_natCast] at hh ⊢
    refine (rfNew_yes p (by omega) (by omega)).mono ?_
    rintro x w' ⟨br, rfl, hk, F', hR, hf⟩
    rcases hh with ⟨h0, _⟩ | ⟨_, bd, F, rfl, rfl⟩
    · omega
    · refine ⟨_, [⟨bd, D.new p, F, br, R.new (List.replicate (256 * p) 0), F'⟩], rfl, ?_, .inr ⟨rfl, bd, F, br, F', rfl, rfl, rfl⟩⟩
      exact (h.add hk (t := refThing br (R.new (List.replicate (256 * p) 0)) F') hR hf).perm (List.Perm.swap _ _ _)
theorem load_first (h : RowAt w0 b es M w) {v : Value} {l : List UInt8} (hv : BytesAt w v l) {c : Int} (hc : loadC l.length = c) :
    Calls Try.prog 30 #[v] w fun x w' => ∃ pv T, x = .returned (.tuple #[pv, .int .i64 c]) ∧ RowAt w0 b es (T ++ M) w' ∧ Half c { D.new (l.length / 256) with img := l } pv T := by
  subst hc
  unfold loadC
  obtain ⟨a, cp, rfl, h1, h2⟩ := hv.form
  unfold maxLen at h2
  split
  · rename_i hn
    refine (dLoad_size hn (by omega)).mono ?_
    rintro x w' ⟨rfl, rfl⟩
    exact ⟨_, [], rfl, h, .inl ⟨by omega, rfl, rfl⟩⟩
  · split
    · rename_i hn hm
      refine (dLoad_pages (by omega) (by omega) hm).mono ?_
      rintro x w' ⟨rfl, rfl⟩
      exact ⟨_, [], rfl, h, .inl ⟨by omega, rfl, rfl⟩⟩
    · rename_i hn hm
      refine (load_thing (n := l.length / 256) hv (by omega) (by omega) (by omega) rfl).mono ?_
      rintro x w' ⟨rfl, hk, F, hD, hf⟩
      exact ⟨_, [diskThing (w.heap.size + 2) { D.new (l.length / 256) with img := l } F], rfl, h.add hk (t := diskThing (w.heap.size + 2) { D.new (l.length / 256) with img := l } F) hD hf, .inr ⟨rfl, _, F, rfl, rfl⟩⟩
theorem load_second {T : List Thing} (h : RowAt w0 b es (T ++ M) w) {v : Value} {l : List UInt8} (hv : BytesAt w v l) {c : Int} (hc : loadC l.length = c) {pv : Value} (hh : Half c { D.new (l.length / 256) with img := l } pv T) :
    Calls Try.prog 44 #[v] w fun x w' => ∃ rv es2, x = .returned (.tuple #[rv, .int .i64 c]) ∧ RowAt w0 b es (es2.flatMap En.things ++ M) w' ∧ Pair c { D.new (l.length / 256) with img := l } (R.new l) pv rv es2 := by
  subst hc
  unfold loadC at hh ⊢
  obtain ⟨a, cp, rfl, h1, h2⟩ := hv.form
  unfold maxLen at h2
  split at hh
  · rename_i hn
    rw [if_pos hn]
    refine (rfLoad_size hn (by omega)).mono ?_
    rintro x w' ⟨rfl, rfl⟩
    rcases hh with ⟨_, rfl, rfl⟩ | ⟨h0, _⟩
    · exact ⟨_, [], rfl, h, .inl ⟨by omega, rfl, rfl, rfl⟩⟩
    · omega
  · rename_i hn
    rw [if_neg hn]
    have e : l.length = 256 * (l.length / 256) := by omega
    split at hh
    · rename_i hm
      rw [if_pos hm]
      have := rfLoad_pages (w := w) (a := a) (cap := cp) (l.length / 256) (by omega) hm
      rw [← e] at this
      refine this.mono ?_
      rintro x w' ⟨rfl, rfl⟩
      rcases hh with ⟨_, rfl, rfl⟩ | ⟨h0, _⟩
      · exact ⟨_, [], rfl, h, .inl ⟨by omega, rfl, rfl, rfl⟩⟩
      · omega
    · rename_i hm
      rw [if_neg hm]
      refine (rfLoad_yes (l.length / 256) hv e (by omega) (by omega)).mono ?_
      rintro x w' ⟨br, rfl, hk, F', hR, hf⟩
      rcases hh with ⟨h0, _⟩ | ⟨_, bd, F, rfl, rfl⟩
      · omega
      · refine ⟨_, [⟨bd, { D.new (l.length / 256) with img := l }, F, br, R.new l, F'⟩], rfl, ?_, .inr ⟨rfl, bd, F, br, F', rfl, rfl, rfl⟩⟩
        exact (h.add hk (t := refThing br (R.new l) F') hR hf).perm (List.Perm.swap _ _ _)
theorem pair_joins {c : Int} {d : D} {r : R} {pv rv : Value} {es2 : List En} (h : RowAt w0 b es (es2.flatMap En.things ++ M) w) (hp : Pair c d r pv rv es2) (hl : c = 0 → Like d r) (hc : c ≤ 9223372036854775807) (hm : c = 0 → d.n ≤ 4096) (hq : r.log = []) (hn : es.length ≤ 4294967296) :
    Calls Try.prog 40 #[.pointer (some ⟨b, 0, none⟩), pv, .int .i64 c, rv, .int .i64 c] w fun x w' => x = .returned (.bool true) ∧ RowAt w0 b (es ++ es2) M w' := by
  rcases hp with ⟨_, rfl, rfl, rfl⟩ | ⟨h0, bd, F, br, F', rfl, rfl, rfl⟩
  · refine (joins_no 0 c b hc).mono ?_
    rintro x w' ⟨rfl, rfl⟩
    rw [List.append_nil]
    exact ⟨rfl, h⟩
  · have hl' := hl h0
    have hm' := hm h0
    subst h0
    exact RowAt.joins (e := ⟨bd, d, F, br, r, F'⟩) (by simpa using h) hn hl' hm' (by simp only; rw [hq]; simp)
theorem pair_ok {c : Int} {d : D} {r : R} {pv rv : Value} {es2 : List En} (hp : Pair c d r pv rv es2) (hl : c = 0 → Like d r) (hm : c = 0 → d.n ≤ 4096) (hq : r.log = []) : es2.length ≤ 1 ∧ ∀ e ∈ es2, EnOk e 0 := by
  rcases hp with ⟨_, rfl, rfl, rfl⟩ | ⟨h0, bd, F, br, F', rfl, rfl, rfl⟩
  · exact ⟨by simp, by simp⟩
  · refine ⟨by simp, fun e he => ?_⟩
    rw [List.mem_singleton.1 he]
    exact ⟨hl h0, hm h0, by simp only; rw [hq]; simp⟩
end
theorem newC_le (n : Int) : newC n ≤ 9223372036854775807 := by unfold newC; split <;> omega
theorem loadC_le (n : Nat) : loadC n ≤ 9223372036854775807 := by unfold loadC; split <;> (try split) <;> omega
theorem newC_like {n : Int} (h : newC n = 0) : Like (D.new n.toNat) (R.new (List.replicate (256 * n.toNat) 0)) ∧ (D.new n.toNat).n ≤ 4096 := by
  unfold newC at h
  split at h
  · omega
  · exact ⟨Like.new n.toNat _ (by rw [List.length_replicate]), by simp only [D.new]; omega⟩
theorem loadC_like {l : List UInt8} (h : loadC l.length = 0) : Like { D.new (l.length / 256) with img := l } (R.new l) ∧ ({ D.new (l.length / 256) with img := l } : D).n ≤ 4096 := by
  unfold loadC at h
  split at h
  · omega
  · split at h
    · omega
    · exact ⟨Like.new _ _ (by omega), by simp only [D.new]; omega⟩
end Go.Proofs.Ytbjffjplpnnhoaa

/-
  The row of disks of layer 4's law: makes.
-/
namespace Go.Proofs.Ytbjffjplpnnhoaa
set_option linter.unusedVariables false
set_option linter.unusedSimpArgs false
open Go.RowKit

/-- What a making step leaves. -/
def MakePost (w0 : World) (b : Nat) (es : List En) (x : Ending) (w' : World) : Prop := x = .returned (.bool true) ∧ ∃ es2, es2.length ≤ 2 ∧ (∀ e ∈ es2, EnOk e 0) ∧ RowAt w0 b (es ++ es2) [] w'
def MadePost (w0 : World) (b : Nat) (es : List En) (n : Int) (x : Ending) (w' : World) : Prop := x = .returned (.bool true) ∧ ∃ pv rv es2, Pair (newC n) (D.new n.toNat) (R.new (List.replicate (256 * n.toNat) 0)) pv rv es2 ∧ RowAt w0 b (es ++ es2) [] w'
set_option maxRecDepth 100000 in
theorem makes_full {w0 w : World} {b : Nat} {es : List En} (o : OpV) (i : Int) (h : RowAt w0 b es [] w) {pg : Int} (hr : w.cell? ⟨b, 9, none⟩ = some (.int .i64 pg)) (hp : 40000 < pg) :
    Calls Try.prog 31 #[.pointer (some ⟨b, 0, none⟩), .agg o.cells, .int .i64 i] w (MakePost w0 b es) := by
  obtain ⟨w1, hw1⟩ : ∃ w1, w1 = w.alloc (.cells o.cells 80 (0, 0)) := ⟨_, rfl⟩
  have h1 : RowAt w0 b es [] w1 := h.keep (by rw [hw1]; exact (Keeps.refl _ _).alloc _)
  have hr1 : w1.cell? ⟨b, 9, none⟩ = some (.int .i64 pg) := by
    rw [hw1]
    exact (World.cell?_of_block (a := ⟨b, 9, none⟩) (heap_old_at (World.block_lt_of_cell? w _ hr))).trans hr
  have H1 := Lib.hid h1
  have HW1 := Lib.hid hw1
  unfold OpV.cells at HW1 ⊢
  clear h h1 hw1 hr
  go_enter Try.func31, Try.ntmps31
  go_upto_region 1 with fail
  rw [← HW1.out]
  go_wp2_with fail
  go_ret
  exact ⟨rfl, [], by simp, by simp, by rw [List.append_nil]; exact H1.out⟩
set_option maxRecDepth 100000 in
set_option maxHeartbeats 1000000 in
theorem makes_new {w0 w : World} {b : Nat} {es : List En} (dn n m : Int) (dv : Value) (pat : Nat) (i : Int) (h : RowAt w0 b es [] w) {pg : Int} (hr : w.cell? ⟨b, 9, none⟩ = some (.int .i64 pg)) (hp : pg ≤ 40000) (hn : es.length ≤ 4294967296) :
    Calls Try.prog 31 #[.pointer (some ⟨b, 0, none⟩), .agg #[.int .i64 1, .int .i64 dn, .int .i64 n, .int .i64 m, dv, .int .u32 pat], .int .i64 i] w (MadePost w0 b es n) := by
  obtain ⟨g0, hg0⟩ : ∃ g0, g0 = w.heap.size := ⟨_, rfl⟩
  obtain ⟨w1, hw1⟩ : ∃ w1, w1 = w.alloc (.cells #[.int .i64 1, .int .i64 dn, .int .i64 n, .int .i64 m, dv, .int .u32 pat] 80 (0, 0)) := ⟨_, rfl⟩
  obtain ⟨O, hO⟩ : ∃ O : OpV, O = ⟨1, dn, n, m, dv, [], pat⟩ := ⟨_, rfl⟩
  have hOc : O.cells = #[.int .i64 1, .int .i64 dn, .int .i64 n, .int .i64 m, dv, .int .u32 pat] := by rw [hO]; rfl
  have h1 : RowAt w0 b es [opT g0 O] w1 := h.add (w' := w1) (t := opT g0 O) (by rw [hw1]; exact (Keeps.refl _ _).alloc _) (show w1.heap[g0]? = some (.cells O.cells 80 (0, 0)) by rw [hw1, hOc]; exact heap_new_at hg0) (fun i hi => .inr (by simp [opT, blockThing] at hi; omega))
  have hr1 : w1.cell? ⟨b, 9, none⟩ = some (.int .i64 pg) := by
    rw [hw1]
    exact (World.cell?_of_block (a := ⟨b, 9, none⟩) (heap_old_at (World.block_lt_of_cell? w _ hr))).trans hr
  have hcells : ∀ (wx : World) (zs : List En) (M : List Thing), RowAt w0 b zs M wx → opT g0 O ∈ M → wx.cell? ⟨g0, 0, none⟩ = some (.int .i64 1) ∧ wx.cell? ⟨g0, 2, none⟩ = some (.int .i64 n) := by
    intro wx zs M hx hm
    obtain ⟨c0, c1, c2, c3, c4, c5⟩ := OpV.cellsAt (hx.op hm)
    rw [hO] at c0 c2
    exact ⟨c0, c2⟩
  have HC := Lib.hid hcells
  have H1 := Lib.hid h1
  have HW1 := Lib.hid hw1
  have HG0 := Lib.hid hg0
  obtain ⟨p0, p2⟩ := hcells _ _ _ h1 (by simp)
  obtain ⟨c, hc⟩ : ∃ c, c = newC n := ⟨_, rfl⟩
  have HCC := Lib.hid hc
  have CD := Lib.hid (new_first h1 n hc.symm)
  have hp' : ¬ 40000 < pg := by omega
  clear h h1 hw1 hr hO hOc hcells hg0 hc hp
  go_enter Try.func31, Try.ntmps31
  go_upto_region 1 with fail
  rw [← HW1.out, ← HG0.out]
  go_wp2_with fail
  refine CD.out.mono ?_
  rintro x w2 ⟨pv, T, rfl, h2, hh⟩
  have CE := Lib.hid (new_second h2 n HCC.out.symm hh)
  obtain ⟨p0, p2⟩ := HC.out _ _ _ h2 (by simp)
  clear h2 hh CD H1 hr1
  go_wp2_with fail
  refine CE.out.mono ?_
  rintro x w3 ⟨rv, es2, rfl, h3, hpair⟩
  have CJ := Lib.hid (pair_joins h3 hpair (fun h0 => (newC_like (HCC.out.symm.trans h0)).1) (by rw [HCC.out]; exact newC_le n) (fun h0 => (newC_like (HCC.out.symm.trans h0)).2) rfl hn)
  have HPA := Lib.hid hpair
  clear h3 hpair CE p0 p2
  go_wp2_with fail
  refine CJ.out.mono ?_
  rintro x w4 ⟨rfl, h4⟩
  have H4 := Lib.hid (h4.sub (List.nil_sublist _))
  clear h4 CJ
  go_wp2_with fail
  go_ret
  exact ⟨rfl, pv, rv, es2, by rw [← HCC.out]; exact HPA.out, H4.out⟩
end Go.Proofs.Ytbjffjplpnnhoaa

/-
  The row of disks of layer 4's law: makes, of an image.
-/
namespace Go.Proofs.Ytbjffjplpnnhoaa
set_option linter.unusedVariables false
set_option linter.unusedSimpArgs false
open Go.RowKit

/-- The list that an image is made of. -/
def WasAt (w0 : World) (b : Nat) (es : List En) (g0 : Nat) (O : OpV) (s : Value) (w : World) : Prop := ∃ l aw cw, s = .slice aw l.length cw ∧ l.length ≤ 1048576 ∧ RowAt w0 b es [bytesThing s l, opT g0 O] w
theorem RowAt.disks {w0 w : World} {b : Nat} {es : List En} {M : List Thing} (h : RowAt w0 b es M w) (h0 : 0 < es.length) : ∃ g o c, w.cell? ⟨b, 0, none⟩ = some (.slice (some ⟨g, o, none⟩) es.length c) ∧ (∀ i e, es[i]? = some e → w.cell? ⟨g, o + i, none⟩ = some (.pointer (some ⟨e.bd, 0, none⟩))) ∧
    ∃ g' o' c', w.cell? ⟨b, 1, none⟩ = some (.slice (some ⟨g', o', none⟩) es.length c') ∧ (∀ i e, es[i]? = some e → w.cell? ⟨g', o' + i, none⟩ = some (.pointer (some ⟨e.br, 0, none⟩))) ∧ es.length ≤ c ∧ es.length ≤ c' := by
  obtain ⟨k, gs, cs, h, ho⟩ := h
  have hroot : BkAt w b k := h.get (t := rowThing b k) (by simp [rowL, bookL_eq])
  have hq : QOwn w 90 1 k.rsv es.length (es.map En.pr) := h.get (t := qThing 90 1 k.rsv es.length (es.map En.pr)) (by simp [rowL])
  have hq2 : QOwn w 24 1 k.dsv es.length (es.map En.pd) := h.get (t := qThing 24 1 k.dsv es.length (es.map En.pd)) (by simp [rowL])
  obtain ⟨g, o, c, e1, hg, hr⟩ := hq.at h0
  obtain ⟨g2, o2, c2, e2, hg2, hr2⟩ := hq2.at h0
  obtain ⟨a3, c3, e3, l3, _⟩ := hq.form
  obtain ⟨a4, c4, e4, l4, _⟩ := hq2.form
  have e5 := e1.symm.trans e3
  have e6 := e2.symm.trans e4
  injection e5 with _ _ e5
  injection e6 with _ _ e6
  refine ⟨g2, o2, c2, by rw [hroot.at.1, e2], fun i e he => hr2 i _ (by rw [List.getElem?_map, he]; rfl), g, o, c, by rw [hroot.at.2.1, e1], fun i e he => hr i _ (by rw [List.getElem?_map, he]; rfl), by omega, by omega⟩
set_option maxRecDepth 100000 in
set_option maxHeartbeats 4000000 in
theorem makes_load {w0 w : World} {b L : Nat} {es : List En} {o : OpV} (i : Nat) (h : RowAt w0 b es [] w) (ho : o.ok w0) (hk : o.kind = 2 ∨ o.kind = 3) (hi : i < es.length) (hE : ∀ e ∈ es, EnOk e L) (hL : L ≤ 4294967000) (hn : es.length ≤ 4294967290) {pg : Int} (hr : w.cell? ⟨b, 9, none⟩ = some (.int .i64 pg)) (hp : pg ≤ 40000) :
    Calls Try.prog 31 #[.pointer (some ⟨b, 0, none⟩), .agg o.cells, .int .i64 i] w (MakePost w0 b es) := by
  have HO := Lib.hid ho
  obtain ⟨da, dc, hdv, hdc, hdm⟩ := ho.data.form
  obtain ⟨kind, dn, n, m, dv, data, pat⟩ := o
  simp only at hdv hk
  subst hdv
  have hlen := ho.len
  simp only at hlen
  unfold maxLen at hdm
  obtain ⟨ld, hld⟩ : ∃ ld, ld = data.length := ⟨_, rfl⟩
  obtain ⟨g0, hg0⟩ : ∃ g0, g0 = w.heap.size := ⟨_, rfl⟩
  rw [← hld] at hdc hlen
  obtain ⟨O, hO⟩ : ∃ O : OpV, O = ⟨kind, dn, n, m, .slice da data.length dc, data, pat⟩ := ⟨_, rfl⟩
  rw [← hO] at HO
  have hOc : O.cells = #[.int .i64 kind, .int .i64 dn, .int .i64 n, .int .i64 m, .slice da ld dc, .int .u32 pat] := by rw [hO, hld]; rfl
  rw [show OpV.cells ⟨kind, dn, n, m, .slice da data.length dc, data, pat⟩ = #[.int .i64 kind, .int .i64 dn, .int .i64 n, .int .i64 m, .slice da ld dc, .int .u32 pat] from by rw [hld]; rfl]
  obtain ⟨w1, hw1⟩ : ∃ w1, w1 = w.alloc (.cells #[.int .i64 kind, .int .i64 dn, .int .i64 n, .int .i64 m, .slice da ld dc, .int .u32 pat] 80 (0, 0)) := ⟨_, rfl⟩
  have h1 : RowAt w0 b es [opT g0 O] w1 := h.add (w' := w1) (t := opT g0 O) (by rw [hw1]; exact (Keeps.refl _ _).alloc _) (show w1.heap[g0]? = some (.cells O.cells 80 (0, 0)) by rw [hw1, hOc]; exact heap_new_at hg0) (fun i hi => .inr (by simp [opT, blockThing] at hi; omega))
  have hr1 : w1.cell? ⟨b, 9, none⟩ = some (.int .i64 pg) := by
    rw [hw1]
    exact (World.cell?_of_block (a := ⟨b, 9, none⟩) (heap_old_at (World.block_lt_of_cell? w _ hr))).trans hr
  have hcells : ∀ (wx : World) (zs : List En) (M : List Thing), RowAt w0 b zs M wx → opT g0 O ∈ M → wx.cell? ⟨g0, 0, none⟩ = some (.int .i64 kind) ∧ wx.cell? ⟨g0, 4, none⟩ = some (.slice da ld dc) := by
    intro wx zs M hx hm
    obtain ⟨c0, c1, c2, c3, c4, c5⟩ := OpV.cellsAt (hx.op hm)
    rw [hO] at c0 c4
    simp only [← hld] at c0 c4
    exact ⟨c0, c4⟩
  have hdat : BytesAt w1 (.slice da ld dc) data := by
    have := h1.dv HO.out
    rw [hO] at this
    rw [hld]
    exact this
  have CC := Lib.hid (lCopied_any hdat (by rw [← hld]; omega))
  have HC := Lib.hid hcells
  have H1 := Lib.hid h1
  have HW1 := Lib.hid hw1
  have HG0 := Lib.hid hg0
  have HE := Lib.hid hE
  have HLD := Lib.hid hld
  have HI := Lib.hid hi
  obtain ⟨p0, p4⟩ := hcells _ _ _ h1 (by simp)
  have k1 : (kind == 1) = false := by rcases hk with rfl | rfl <;> rfl
  have hp' : ¬ 40000 < pg := by omega
  rw [← hld] at CC
  clear h h1 hw1 hr hO hOc hcells hg0 hp ho hE hld HO hi hdat
  go_enter Try.func31, Try.ntmps31
  go_upto_region 1 with fail
  rw [← HW1.out, ← HG0.out]
  go_wp2_with fail
  refine CC.out.mono ?_
  rintro x w2 ⟨aw, cw, rfl, hO2, hf2, hk2⟩
  have h2 := H1.out.keep hk2
  have h2' := H1.out.add hk2 (t := bytesThing (.slice aw ld cw) data) hO2 (fun i hi => .inr (hf2 i (by simpa [bytesThing] using hi)))
  obtain ⟨p0, p4⟩ := HC.out _ _ _ h2 (by simp)
  have H2 := Lib.hid h2
  have H2' := Lib.hid h2'
  clear h2 h2' hO2 hf2 hk2 H1 CC hr1 hp' k1
  go_upto_if 51 with fail
  go_cut [11] (fun s wx => WasAt w0 b es g0 O s wx)
  case first =>
    rcases hk with rfl | rfl
    · go_wp2_with fail
      go_meet
      case rel => exact ⟨data, aw, cw, by rw [← HLD.out], by rw [← HLD.out]; exact hlen, H2'.out⟩
    · obtain ⟨_, _, _, _, _, g, o, c, q1, hq, _, hcc⟩ := H2.out.disks (by have := HI.out; omega)
      have i1 : (i : Int) < (es.length : Int) := by have := HI.out; omega
      have i0 : (0 : Int) ≤ (i : Int) := by omega
      have hil : i < es.length := HI.out
      have hei := hq i es[i] (List.getElem?_eq_getElem hil)
      obtain ⟨ei, hee⟩ : ∃ ei, ei = es[i] := ⟨_, rfl⟩
      rw [← hee] at hei
      have hem : ei ∈ es := by rw [hee]; exact List.getElem_mem _
      have hEi := HE.out ei hem
      have CI := Lib.hid (rfIm_any (H2.out.ref hem) hEi.like hEi.n (by have := hEi.log; omega))
      have hlen2 : ei.d.img.length ≤ 1048576 := by
        have := (H2.out.disk hem).ok
        rw [this.2.2.1]
        have := hEi.n
        omega
      obtain ⟨br, hbr⟩ : ∃ br, br = ei.br := ⟨_, rfl⟩
      rw [← hbr] at hei CI
      have HL2 := Lib.hid hlen2
      clear hq hee hem hEi hbr H2' hlen2
      obtain ⟨el, hel⟩ : ∃ el, el = es.length := ⟨_, rfl⟩
      rw [← hel] at q1 i1 hcc
      clear hel
      go_wp2_with fail
      refine CI.out.mono ?_
      rintro x w3 ⟨v, rfl, hO3, hf3, hk3⟩
      obtain ⟨a3, c3, rfl⟩ := owns_slice' hO3
      have H3 := Lib.hid (H2.out.add hk3 (t := bytesThing (.slice a3 ei.d.img.length c3) ei.d.img) hO3 (fun i hi => .inr (hf3 i (by simpa [bytesThing] using hi))))
      clear hO3 hf3 hk3 H2 CI q1 hei p0 p4
      go_wp2_with fail
      go_meet
      case rel => exact ⟨ei.d.img, a3, c3, rfl, HL2.out, H3.out⟩
  case rest =>
    obtain ⟨l, av, cv, rfl, hll, h3⟩ := hcut
    obtain ⟨ln, hln⟩ : ∃ ln, ln = l.length := ⟨_, rfl⟩
    rw [← hln] at hll h3 ⊢
    have HLN := Lib.hid hln
    have CR := Lib.hid (lRoomy_any (ownB_bytes (h3.own (v := .slice av ln cv) (l := l) (by simp))) (by rw [← hln]; omega))
    have H3 := Lib.hid h3
    clear h3 hln H2 H2' p0 p4 hk hlen hdc hdm
    go_wp2_with fail
    refine CR.out.mono ?_
    rintro x w4 ⟨g, N, hN, rfl, hg, hO4, hk4⟩
    have h4 := H3.out.add hk4 (t := bytesThing (.slice (some ⟨g, 0, none⟩) N N) (roomed l)) hO4 (fun i hi => .inr (by simp [bytesThing, Value.ownBlock] at hi; omega))
    rw [← HLN.out] at hN
    have n1 : ln ≤ N := by omega
    have n2 : N ≤ 1048656 := by omega
    have hpre : ∀ (wx : World) (l' : List UInt8), l'.length = ln → OwnB wx (.slice (some ⟨g, 0, none⟩) N N) (roomed l') → BytesAt wx (.slice (some ⟨g, 0, none⟩) ln N) l' := fun wx l' he hx => by
      have := ownB_bytes (hx.headPart (k := ln) n1)
      rw [show (roomed l').take ln = l' from by rw [← he]; exact roomed_take l'] at this
      exact this
    have HP := Lib.hid hpre
    obtain ⟨c, hc⟩ : ∃ c, c = loadC ln := ⟨_, rfl⟩
    have HCC := Lib.hid hc
    have CD := Lib.hid (load_first h4 (hpre _ l HLN.out.symm (h4.own (by simp))) (c := c) (by rw [← HLN.out]; exact hc.symm))
    have hn0 : (0 : Int) ≤ (ln : Int) := by omega
    clear h4 hN hg hO4 hk4 hpre hc CR H3
    go_wp2_with fail
    refine CD.out.mono ?_
    rintro x w5 ⟨pv, T, rfl, h5, hh⟩
    have CE := Lib.hid (load_second h5 (ownB_bytes (h5.own (v := .slice av ln cv) (l := l) (by simp))) (c := c) (by rw [← HLN.out]; exact HCC.out.symm) hh)
    clear h5 hh CD
    go_wp2_with fail
    refine CE.out.mono ?_
    rintro x w6 ⟨rv, es2, rfl, h6, hpair⟩
    have hlk : ∀ l' : List UInt8, l'.length = ln → c = 0 → Like { D.new (l'.length / 256) with img := l' } (R.new l') ∧ ({ D.new (l'.length / 256) with img := l' } : D).n ≤ 4096 := fun l' he h0 => loadC_like (by rw [he, ← HCC.out, h0])
    have HLK := Lib.hid hlk
    have hpo := pair_ok hpair (fun h0 => (HLK.out l HLN.out.symm h0).1) (fun h0 => (HLK.out l HLN.out.symm h0).2) rfl
    have HPO := Lib.hid hpo
    have HPA := Lib.hid hpair
    have CI := Lib.hid (lIntact_any (l := l) (h6.own (v := .slice (some ⟨g, 0, none⟩) N N) (l := roomed l) (by simp)) (ownB_bytes (h6.own (v := .slice av ln cv) (l := l) (by simp))) (by rw [← HLN.out]; omega))
    have H6 := Lib.hid h6
    clear h6 hpair CE hlk hpo
    go_wp2_with fail
    refine CI.out.mono ?_
    rintro x w7 ⟨rfl, hk7⟩
    have CJ := Lib.hid (pair_joins (H6.out.keep hk7) HPA.out (fun h0 => (HLK.out l HLN.out.symm h0).1) (by rw [HCC.out]; exact loadC_le ln) (fun h0 => (HLK.out l HLN.out.symm h0).2) rfl (by omega))
    clear hk7 H6 CI
    go_wp2_with fail
    refine CJ.out.mono ?_
    rintro x w8 ⟨rfl, h8⟩
    obtain ⟨es3, hes3⟩ : ∃ es3, es3 = es ++ es2 := ⟨_, rfl⟩
    rw [← hes3] at h8
    have HES3 := Lib.hid hes3
    have H8 := Lib.hid (h8.perm (List.Perm.swap _ _ _))
    clear h8 CJ HPA hes3
    go_wp2_with fail
    go_loopw [18] (fun iv wr => ∃ i : Nat, i ≤ ln ∧ iv = .int .i64 i ∧ RowAt w0 b es3 [bytesThing (.slice av ln cv) (flipAt l i), bytesThing (.slice (some ⟨g, 0, none⟩) N N) (roomed (flipAt l i)), opT g0 O] wr) (fun iv _ => ln - (intOf iv).toNat)
    case atStart => exact ⟨0, Nat.zero_le _, rfl, by rw [flipAt_zero]; exact H8.out⟩
    case round =>
      obtain ⟨i, hi, rfl, hR⟩ := hrel
      have i0 : (0 : Int) ≤ (i : Int) := by omega
      have HR := Lib.hid hR
      by_cases hlt : i < ln
      · have i1 : (i : Int) < (ln : Int) := by omega
        have i2 : (i : Int) < (N : Int) := by omega
        have hil : i < l.length := by rw [← HLN.out]; exact hlt
        have hOw := hR.own (v := .slice av ln cv) (l := flipAt l i) (by simp)
        obtain ⟨gw, rfl⟩ := own_at hOw (by omega)
        have hfl : i < (flipAt l i).length := by rw [flipAt_length]; exact hil
        have f1 := hOw.cell i hfl
        have f2 := hOw.free i
        rw [flipAt_get l hil] at f1
        obtain ⟨xb, hxb⟩ : ∃ xb, xb = l[i] := ⟨_, rfl⟩
        rw [← hxb] at f1
        unfold B at f1
        have hxi := inv_int xb
        obtain ⟨yb, hyb⟩ : ∃ yb, yb = inv xb := ⟨_, rfl⟩
        rw [← hyb] at hxi
        have hset := hOw.set i hfl yb
        rw [hyb, hxb, flipAt_set l hil, ← hxb, ← hyb] at hset
        have hr1 := hR.upd (t := bytesThing (.slice (some ⟨gw, 0, none⟩) ln cv) (flipAt l i)) (t' := bytesThing (.slice (some ⟨gw, 0, none⟩) ln cv) (flipAt l (i + 1))) (List.Perm.refl _) ((Keeps.refl _ _).setCell (p := ⟨gw, i, none⟩) (.inl (by simp [bytesThing, Value.ownBlock])) (B yb)) hset (From.refl _ _)
        obtain ⟨w9, hw9⟩ : ∃ w9, w9 = wr.setCell ⟨gw, i, none⟩ (.int .u8 yb.toNat) := ⟨_, rfl⟩
        rw [show wr.setCell ⟨gw, i, none⟩ (B yb) = w9 from hw9.symm] at hr1
        have hOw7 := hr1.own (v := .slice (some ⟨gw, 0, none⟩) ln cv) (l := flipAt l (i + 1)) (by simp)
        have hOg7 := hr1.own (v := .slice (some ⟨g, 0, none⟩) N N) (l := roomed (flipAt l i)) (by simp)
        have k1 : w9.cell? ⟨gw, i, none⟩ = some (.int .u8 yb.toNat) := by
          rw [hOw7.cell i (by rw [flipAt_length]; exact hil)]
          have : (flipAt l (i + 1))[i]'(by rw [flipAt_length]; exact hil) = yb := by
            have e1 := flipAt_set l hil
            have e2 : (flipAt l (i + 1))[i]? = some (inv l[i]) := by rw [← e1, List.getElem?_set_self hfl]
            rw [List.getElem?_eq_getElem (by rw [flipAt_length]; exact hil)] at e2
            rw [hyb, hxb]
            exact Option.some.inj e2
          rw [this]
          rfl
        have hgl : i < (roomed (flipAt l i)).length := by rw [roomed_length, flipAt_length]; omega
        obtain ⟨old, hold⟩ : ∃ old, old = B (roomed (flipAt l i))[i] := ⟨_, rfl⟩
        have k2 := hOg7.cell i hgl
        rw [← hold] at k2
        have k3 := hOg7.free i
        have hset2 := hOg7.set i hgl yb
        rw [roomed_set _ hfl, hyb, hxb, flipAt_set l hil, ← hxb, ← hyb] at hset2
        have hr2 := (hr1.perm (List.Perm.swap _ _ _)).upd (t := bytesThing (.slice (some ⟨g, 0, none⟩) N N) (roomed (flipAt l i))) (t' := bytesThing (.slice (some ⟨g, 0, none⟩) N N) (roomed (flipAt l (i + 1)))) (List.Perm.refl _) ((Keeps.refl _ _).setCell (p := ⟨g, i, none⟩) (.inl (by simp [bytesThing, Value.ownBlock])) (B yb)) hset2 (From.refl _ _)
        have HR2 := Lib.hid (hr2.perm (List.Perm.swap _ _ _))
        have HW9 := Lib.hid hw9
        clear hR hOw hfl hset hr1 hw9 hOw7 hOg7 hgl hold hset2 hr2 hxb hyb H8 hil
        go_upto_region 20 with fail
        rw [← HW9.out]
        clear f1 f2 hxi
        go_wp2_with fail
        go_roundw
        case rel => exact ⟨i + 1, by omega, by go_num, HR2.out⟩
        case measure => simp [intOf]; omega
      · obtain rfl : i = ln := by omega
        have hR' := hR
        rw [HLN.out, flipAt_all, ← HLN.out] at hR'
        obtain ⟨l2, hl2d⟩ : ∃ l2, l2 = l.map inv := ⟨_, rfl⟩
        rw [← hl2d] at hR'
        have hl2 : l2.length = i := by rw [hl2d, List.length_map, HLN.out]
        have H9 := Lib.hid hR'
        have HL2 := Lib.hid hl2
        have CD := Lib.hid (load_first hR' (HP.out _ l2 hl2 (hR'.own (by simp))) (c := c) (by rw [hl2]; exact HCC.out.symm))
        clear hR hR' hl2d HR H8 hl2 i0
        have i1 : ¬ (i : Int) < (i : Int) := by omega
        go_wp2_with fail
        refine CD.out.mono ?_
        rintro x w10 ⟨pv2, T2, rfl, h10, hh⟩
        have CE := Lib.hid (load_second h10 (ownB_bytes (h10.own (v := .slice av i cv) (l := l2) (by simp))) (c := c) (by rw [HL2.out]; exact HCC.out.symm) hh)
        clear h10 hh CD
        go_wp2_with fail
        refine CE.out.mono ?_
        rintro x w11 ⟨rv2, es4, rfl, h11, hpair⟩
        have hpo := pair_ok hpair (fun h0 => (HLK.out l2 HL2.out h0).1) (fun h0 => (HLK.out l2 HL2.out h0).2) rfl
        have HPO2 := Lib.hid hpo
        have HPA := Lib.hid hpair
        have CI := Lib.hid (lIntact_any (l := l2) (h11.own (v := .slice (some ⟨g, 0, none⟩) N N) (l := roomed l2) (by simp)) (ownB_bytes (h11.own (v := .slice av i cv) (l := l2) (by simp))) (by rw [HL2.out]; omega))
        have H11 := Lib.hid h11
        clear h11 hpair CE hpo
        go_wp2_with fail
        refine CI.out.mono ?_
        rintro x w12 ⟨rfl, hk12⟩
        have CK := Lib.hid (((H11.out.keep hk12).perm (N := bytesThing (.slice (some ⟨g, 0, none⟩) N N) (roomed l2) :: (es4.flatMap En.things ++ [bytesThing (.slice av i cv) l2, opT g0 O])) (perm_of fun t => by simp only [List.cons_append, List.nil_append, tcnt_cons, tcnt_append]; omega)).kept (by rw [roomed_length, HL2.out]; omega))
        clear hk12 H11 CI
        go_wp2_with fail
        refine CK.out.mono ?_
        rintro x w13 ⟨rfl, h13⟩
        have CJ := Lib.hid (pair_joins h13 HPA.out (fun h0 => (HLK.out l2 HL2.out h0).1) (by rw [HCC.out]; exact loadC_le i) (fun h0 => (HLK.out l2 HL2.out h0).2) rfl (by have := HPO.out.1; rw [HES3.out, List.length_append]; omega))
        clear h13 CK HPA
        go_wp2_with fail
        refine CJ.out.mono ?_
        rintro x w14 ⟨rfl, h14⟩
        have H14 := Lib.hid (h14.sub (List.nil_sublist _))
        clear h14 CJ
        go_wp2_with fail
        go_ret
        refine ⟨rfl, es2 ++ es4, ?_, fun e he => ?_, ?_⟩
        · have h1 := HPO.out.1
          have h2 := HPO2.out.1
          rw [List.length_append]
          omega
        · rcases List.mem_append.1 he with he | he
          · exact HPO.out.2 e he
          · exact HPO2.out.2 e he
        · rw [← List.append_assoc, ← HES3.out]
          exact H14.out
end Go.Proofs.Ytbjffjplpnnhoaa

/-
  The row of disks of layer 4's law: what plays needs of acts, makes and the readers.
-/
namespace Go.Proofs.Ytbjffjplpnnhoaa
set_option linter.unusedVariables false
set_option linter.unusedSimpArgs false
open Go.RowKit

namespace RowAt
variable {w0 w w' : World} {b : Nat} {es : List En} {M : List Thing}
/-- A call that touches a disk and hands out new bytes. -/
theorem updDv (h : RowAt w0 b es M w) {xs ys : List En} {e : En} (he : es = xs ++ e :: ys) {d' : D} (hk : Keeps e.FD w w') (hP : DiskAt w' e.bd d' e.FD) {v : Value} {l : List UInt8} (hO : OwnB w' v l) (hf : ∀ k, v.ownBlock = some k → w.heap.size ≤ k) :
    RowAt w0 b (xs ++ { e with d := d' } :: ys) (bytesThing v l :: M) w' := by
  subst he
  have hlt := (h.disk (e := e) (by simp)).lt
  obtain ⟨k, gs, cs, h, ho⟩ := h
  have h2 := h.frame (w' := w') (S := [diskThing e.bd e.d e.FD]) (R := bookL b k gs cs ++ (qThing 24 1 k.dsv (xs ++ e :: ys).length ((xs ++ e :: ys).map En.pd) :: qThing 90 1 k.rsv (xs ++ e :: ys).length ((xs ++ e :: ys).map En.pr) :: (xs.flatMap En.things ++ refThing e.br e.r e.FR :: (ys.flatMap En.things ++ M)))) (S' := [diskThing e.bd d' e.FD, bytesThing v l])
    (perm_of fun x => by
      rw [rowL]; simp only [List.cons_append, List.nil_append, tcnt_cons, tcnt_append, List.flatMap_append, List.flatMap_cons, En.things, tcnt_nil]; omega)
    (by simpa [foots, diskThing] using hk)
    (fun s hs => by
      simp only [List.mem_cons, List.not_mem_nil, or_false] at hs
      rcases hs with rfl | rfl
      · exact hP
      · exact hO)
    (fun i hi => by
      simp only [foots, List.flatMap_cons, List.flatMap_nil, List.append_nil, List.mem_append, diskThing, bytesThing, Option.mem_toList] at hi ⊢
      rcases hi with hi | hi
      · exact .inl hi
      · exact .inr (hf i hi))
    (.cons (fun s hs => by
      rw [List.mem_singleton.1 hs]
      intro i hi hi2
      simp only [diskThing] at hi
      simp only [bytesThing, Option.mem_toList] at hi2
      have h1 := hlt i hi
      have h2 := hf i hi2
      omega) (.cons (by simp) .nil))
  refine ⟨k, gs, cs, h2.perm (perm_of fun x => ?_), ho⟩
  rw [rowL]
  simp only [List.cons_append, List.nil_append, tcnt_cons, tcnt_append, List.flatMap_append, List.flatMap_cons, En.things, tcnt_nil, List.length_append, List.length_cons, List.map_append, List.map_cons, En.pd, En.pr]
  omega
theorem updRv (h : RowAt w0 b es M w) {xs ys : List En} {e : En} (he : es = xs ++ e :: ys) {r' : R} (hk : Keeps e.FR w w') (hP : RefAt w' e.br r' e.FR) {v : Value} {l : List UInt8} (hO : OwnB w' v l) (hf : ∀ k, v.ownBlock = some k → w.heap.size ≤ k) :
    RowAt w0 b (xs ++ { e with r := r' } :: ys) (bytesThing v l :: M) w' := by
  subst he
  have hlt := (h.ref (e := e) (by simp)).lt
  obtain ⟨k, gs, cs, h, ho⟩ := h
  have h2 := h.frame (w' := w') (S := [refThing e.br e.r e.FR]) (R := bookL b k gs cs ++ (qThing 24 1 k.dsv (xs ++ e :: ys).length ((xs ++ e :: ys).map En.pd) :: qThing 90 1 k.rsv (xs ++ e :: ys).length ((xs ++ e :: ys).map En.pr) :: (xs.flatMap En.things ++ diskThing e.bd e.d e.FD :: (ys.flatMap En.things ++ M)))) (S' := [refThing e.br r' e.FR, bytesThing v l])
    (perm_of fun x => by
      rw [rowL]; simp only [List.cons_append, List.nil_append, tcnt_cons, tcnt_append, List.flatMap_append, List.flatMap_cons, En.things, tcnt_nil]; omega)
    (by simpa [foots, refThing] using hk)
    (fun s hs => by
      simp only [List.mem_cons, List.not_mem_nil, or_false] at hs
      rcases hs with rfl | rfl
      · exact hP
      · exact hO)
    (fun i hi => by
      simp only [foots, List.flatMap_cons, List.flatMap_nil, List.append_nil, List.mem_append, refThing, bytesThing, Option.mem_toList] at hi ⊢
      rcases hi with hi | hi
      · exact .inl hi
      · exact .inr (hf i hi))
    (.cons (fun s hs => by
      rw [List.mem_singleton.1 hs]
      intro i hi hi2
      simp only [refThing] at hi
      simp only [bytesThing, Option.mem_toList] at hi2
      have h1 := hlt i hi
      have h2 := hf i hi2
      omega) (.cons (by simp) .nil))
  refine ⟨k, gs, cs, h2.perm (perm_of fun x => ?_), ho⟩
  rw [rowL]
  simp only [List.cons_append, List.nil_append, tcnt_cons, tcnt_append, List.flatMap_append, List.flatMap_cons, En.things, tcnt_nil, List.length_append, List.length_cons, List.map_append, List.map_cons, En.pd, En.pr]
  omega
theorem pagesAt (h : RowAt w0 b es M w) : ∃ pg, w.cell? ⟨b, 9, none⟩ = some (.int .i64 pg) := by
  obtain ⟨k, gs, cs, h, ho⟩ := h
  have hroot : BkAt w b k := h.get (t := rowThing b k) (by simp [rowL, bookL_eq])
  exact ⟨k.pages, hroot.at.2.2.2.2.2.2.2.2.2⟩
end RowAt
theorem D.code_rd (d : D) (p : Int) : (d.rd p).code p = d.code p := by unfold D.rd; split <;> rfl
theorem D.told_rd (d : D) (p : Int) : (d.rd p).told p = d.told p := by unfold D.told; rw [D.code_rd]; unfold D.rd; split <;> rfl
theorem D.rd_n (d : D) (p : Int) : (d.rd p).n = d.n := by unfold D.rd; split <;> rfl
theorem D.told_length {d : D} (h : d.ok) (p : Int) : (d.told p).length ≤ 256 := by
  unfold D.told
  split
  · rename_i hc
    unfold D.code at hc
    split at hc
    · omega
    · split at hc
      · omega
      · rw [D.read_length h (by omega)]; omega
  · simp
/-- What a step leaves. -/
def PlayPost (w0 : World) (b : Nat) (n L : Nat) (x : Ending) (w' : World) : Prop := x = .returned (.bool true) ∧ ∃ es', 0 < es'.length ∧ es'.length ≤ n + 2 ∧ (∀ e ∈ es', EnOk e (L + 2)) ∧ RowAt w0 b es' [] w'
theorem acts_any {w0 w : World} {b L : Nat} {xs ys : List En} {e : En} {o : OpV} (h : RowAt w0 b (xs ++ e :: ys) [] w) (ho : o.ok w0) (hE : EnOk e L) (hL : L ≤ 4294967000) :
    Calls Try.prog 53 #[.pointer (some ⟨b, 0, none⟩), .agg o.cells, .pointer (some ⟨e.bd, 0, none⟩), .pointer (some ⟨e.br, 0, none⟩)] w (ActPost w0 b xs ys (L + 2)) := by
  by_cases h5 : o.kind = 5
  · exact acts_write h ho hE hL h5
  by_cases h6 : o.kind = 6
  · exact acts_sync h ho hE hL h6
  by_cases h7 : o.kind = 7
  · exact acts_arm h ho hE hL h7
  by_cases h8 : o.kind = 8
  · exact acts_crash h ho hE hL h8
  by_cases h9 : o.kind = 9
  · exact acts_flip h ho hE hL h9
  by_cases h13 : o.kind = 13
  · exact acts_claim h ho hE hL h13
  exact acts_none h ho hE hL ⟨h5, h6, h7, h8, h9, h13⟩
theorem makes_any {w0 w : World} {b L : Nat} {es : List En} {o : OpV} (i : Nat) (h : RowAt w0 b es [] w) (ho : o.ok w0) (hk : o.kind = 1 ∨ o.kind = 2 ∨ o.kind = 3) (hi : i < es.length) (hE : ∀ e ∈ es, EnOk e L) (hL : L ≤ 4294967000) (hn : es.length ≤ 4294967290) :
    Calls Try.prog 31 #[.pointer (some ⟨b, 0, none⟩), .agg o.cells, .int .i64 i] w (MakePost w0 b es) := by
  obtain ⟨pg, hpg⟩ := h.pagesAt
  by_cases hp : 40000 < pg
  · exact makes_full o i h hpg hp
  rcases hk with hk | hk
  · obtain ⟨kind, dn, n, m, dv, data, pat⟩ := o
    simp only at hk
    subst hk
    refine (makes_new dn n m dv pat i h hpg (by omega) (by omega)).mono ?_
    rintro x w' ⟨rfl, pv, rv, es2, hpair, hR⟩
    have := pair_ok hpair (fun h0 => (newC_like h0).1) (fun h0 => (newC_like h0).2) rfl
    exact ⟨rfl, es2, by omega, this.2, hR⟩
  · exact makes_load i h ho hk hi hE hL hn hpg (by omega)
end Go.Proofs.Ytbjffjplpnnhoaa
