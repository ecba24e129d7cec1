/-
  The row of disks of layer 4's law: one predicate for it, and what each small call leaves of it; told.
-/
import Derived.Test.YtbjffjplpnnhoaaBkK
namespace Go.Proofs.Ytbjffjplpnnhoaa
set_option linter.unusedVariables false
set_option linter.unusedSimpArgs false
open Go.RowKit

def RowAt (w0 : World) (b : Nat) (es : List En) (M : List Thing) (w : World) : Prop := ∃ k gs cs, At w0 w (rowL b k gs cs es M) ∧ BookOk gs cs ∧ cs.length ≤ 64
namespace RowAt
variable {w0 w w' : World} {b : Nat} {es : List En} {M : List Thing}
theorem keep (h : RowAt w0 b es M w) (hk : Keeps [] w w') : RowAt w0 b es M w' := by
  obtain ⟨k, gs, cs, h, ho⟩ := h
  exact ⟨k, gs, cs, h.keep hk, ho⟩
theorem le (h : RowAt w0 b es M w) : w0.heap.size ≤ w.heap.size := by
  obtain ⟨k, gs, cs, h, ho⟩ := h
  exact h.le
theorem below (h : RowAt w0 b es M w) : Below w0.heap.size w0 w := by
  obtain ⟨k, gs, cs, h, ho⟩ := h
  exact h.below
theorem perm {N : List Thing} (h : RowAt w0 b es M w) (hp : M.Perm N) : RowAt w0 b es N w := by
  obtain ⟨k, gs, cs, h, ho⟩ := h
  exact ⟨k, gs, cs, h.perm (by unfold rowL; exact List.Perm.append_left _ (List.Perm.cons _ (List.Perm.cons _ (List.Perm.append_left _ hp)))), ho⟩
theorem sub {N : List Thing} (h : RowAt w0 b es M w) (hp : N.Sublist M) : RowAt w0 b es N w := by
  obtain ⟨k, gs, cs, h, ho⟩ := h
  exact ⟨k, gs, cs, h.sub (by unfold rowL; exact List.Sublist.append_left (List.Sublist.cons_cons _ (List.Sublist.cons_cons _ (List.Sublist.append_left hp _))) _), ho⟩
theorem rowL_middle {k : Bk} {gs : List Grp} {cs : List Idle} (t : Thing) : (t :: rowL b k gs cs es M).Perm (rowL b k gs cs es (t :: M)) := perm_of fun x => by
  rw [rowL, rowL, bookL_eq]; simp only [List.cons_append, List.nil_append, tcnt_cons, tcnt_append]; omega
theorem add (h : RowAt w0 b es M w) (hk : Keeps [] w w') {t : Thing} (hp : t.P w') (hf : From w [] t.F) : RowAt w0 b es (t :: M) w' := by
  obtain ⟨k, gs, cs, h, ho⟩ := h
  exact ⟨k, gs, cs, (h.add hk hp hf).perm (rowL_middle t), ho⟩
theorem get (h : RowAt w0 b es M w) {t : Thing} (ht : t ∈ M) : t.P w := by
  obtain ⟨k, gs, cs, h, ho⟩ := h
  exact h.get (by unfold rowL; simp [ht])
/-- A call that touches one thing of M. -/
theorem upd (h : RowAt w0 b es M w) {t t' : Thing} {N : List Thing} (hp : M.Perm (t :: N)) (hk : Keeps t.F w w') (hP : t'.P w') (hf : From w t.F t'.F) : RowAt w0 b es (t' :: N) w' := by
  obtain ⟨k, gs, cs, h, ho⟩ := (h.perm hp)
  have h2 := h.frame (w' := w') (S := [t]) (R := rowL b k gs cs es N) (S' := [t']) (rowL_middle t).symm (by simpa [foots] using hk) (fun s hs => by rw [List.mem_singleton.1 hs]; exact hP) (by simpa [foots] using hf) (.cons (by simp) .nil)
  exact ⟨k, gs, cs, h2.perm (rowL_middle t'), ho⟩
theorem en_middle {k : Bk} {gs : List Grp} {cs : List Idle} {xs ys : List En} (e : En) : (rowL b k gs cs (xs ++ e :: ys) M).Perm (rowL b k gs cs (xs ++ e :: ys) M) := List.Perm.refl _
theorem disk (h : RowAt w0 b es M w) {e : En} (he : e ∈ es) : DiskAt w e.bd e.d e.FD := by
  obtain ⟨k, gs, cs, h, ho⟩ := h
  exact h.get (t := diskThing e.bd e.d e.FD) (by
    unfold rowL
    refine List.mem_append_right _ (List.mem_cons_of_mem _ (List.mem_cons_of_mem _ (List.mem_append_left _ ?_)))
    exact List.mem_flatMap.2 ⟨e, he, by simp [En.things]⟩)
theorem ref (h : RowAt w0 b es M w) {e : En} (he : e ∈ es) : RefAt w e.br e.r e.FR := by
  obtain ⟨k, gs, cs, h, ho⟩ := h
  exact h.get (t := refThing e.br e.r e.FR) (by
    unfold rowL
    refine List.mem_append_right _ (List.mem_cons_of_mem _ (List.mem_cons_of_mem _ (List.mem_append_left _ ?_)))
    exact List.mem_flatMap.2 ⟨e, he, by simp [En.things]⟩)
/-- A call that touches one of the disks, and behind it one that touches the document's. -/
theorem updD (h : RowAt w0 b es M w) {xs ys : List En} {e : En} (he : es = xs ++ e :: ys) {d' : D} {F' : List Nat} (hk : Keeps e.FD w w') (hP : DiskAt w' e.bd d' F') (hf : From w e.FD F') : RowAt w0 b (xs ++ { e with d := d', FD := F' } :: ys) M w' := by
  subst he
  obtain ⟨k, gs, cs, h, ho⟩ := h
  have h2 := h.frame (w' := w') (S := [diskThing e.bd e.d e.FD]) (R := bookL b k gs cs ++ (qThing 24 1 k.dsv (xs ++ e :: ys).length ((xs ++ e :: ys).map En.pd) :: qThing 90 1 k.rsv (xs ++ e :: ys).length ((xs ++ e :: ys).map En.pr) :: (xs.flatMap En.things ++ refThing e.br e.r e.FR :: (ys.flatMap En.things ++ M)))) (S' := [diskThing e.bd d' F'])
    (perm_of fun x => by
      rw [rowL]; simp only [List.cons_append, List.nil_append, tcnt_cons, tcnt_append, List.flatMap_append, List.flatMap_cons, En.things, tcnt_nil]; omega)
    (by simpa [foots, diskThing] using hk) (fun s hs => by rw [List.mem_singleton.1 hs]; exact hP) (by simpa [foots, diskThing] using hf) (.cons (by simp) .nil)
  refine ⟨k, gs, cs, h2.perm (perm_of fun x => ?_), ho⟩
  rw [rowL]
  simp only [List.cons_append, List.nil_append, tcnt_cons, tcnt_append, List.flatMap_append, List.flatMap_cons, En.things, tcnt_nil, List.length_append, List.length_cons, List.map_append, List.map_cons, En.pd, En.pr]
  omega
theorem updR (h : RowAt w0 b es M w) {xs ys : List En} {e : En} (he : es = xs ++ e :: ys) {r' : R} {F' : List Nat} (hk : Keeps e.FR w w') (hP : RefAt w' e.br r' F') (hf : From w e.FR F') : RowAt w0 b (xs ++ { e with r := r', FR := F' } :: ys) M w' := by
  subst he
  obtain ⟨k, gs, cs, h, ho⟩ := h
  have h2 := h.frame (w' := w') (S := [refThing e.br e.r e.FR]) (R := bookL b k gs cs ++ (qThing 24 1 k.dsv (xs ++ e :: ys).length ((xs ++ e :: ys).map En.pd) :: qThing 90 1 k.rsv (xs ++ e :: ys).length ((xs ++ e :: ys).map En.pr) :: (xs.flatMap En.things ++ diskThing e.bd e.d e.FD :: (ys.flatMap En.things ++ M)))) (S' := [refThing e.br r' F'])
    (perm_of fun x => by
      rw [rowL]; simp only [List.cons_append, List.nil_append, tcnt_cons, tcnt_append, List.flatMap_append, List.flatMap_cons, En.things, tcnt_nil]; omega)
    (by simpa [foots, refThing] using hk) (fun s hs => by rw [List.mem_singleton.1 hs]; exact hP) (by simpa [foots, refThing] using hf) (.cons (by simp) .nil)
  refine ⟨k, gs, cs, h2.perm (perm_of fun x => ?_), ho⟩
  rw [rowL]
  simp only [List.cons_append, List.nil_append, tcnt_cons, tcnt_append, List.flatMap_append, List.flatMap_cons, En.things, tcnt_nil, List.length_append, List.length_cons, List.map_append, List.map_cons, En.pd, En.pr]
  omega
theorem kept {v : Value} {l : List UInt8} (h : RowAt w0 b es (bytesThing v l :: M) w) (hl : l.length ≤ 16777216) :
    Calls Try.prog 46 #[.pointer (some ⟨b, 2, none⟩), v] w fun e w' => e = .returned (.tuple #[]) ∧ RowAt w0 b es M w' := by
  obtain ⟨k, gs, cs, h, ho, hc⟩ := h
  have h1 := h.perm (M := bookL b k gs cs ++ bytesThing v l :: (qThing 24 1 k.dsv es.length (es.map En.pd) :: qThing 90 1 k.rsv es.length (es.map En.pr) :: (es.flatMap En.things ++ M))) (perm_of fun x => by
    rw [rowL]; simp only [List.cons_append, List.nil_append, tcnt_cons, tcnt_append]; omega)
  refine (keep_thing h1 ho hl).mono ?_
  rintro e w' ⟨rfl, k', gs', hA, hO, hR⟩
  refine ⟨rfl, k', gs', cs, ?_, hO, hc⟩
  rw [rowL, hR.1, hR.2.1]
  exact hA
theorem left_ {v : Value} {l : List UInt8} (h : RowAt w0 b es (bytesThing v l :: M) w) (hl : l.length ≤ 16777216) :
    Calls Try.prog 58 #[.pointer (some ⟨b, 2, none⟩), v] w fun e w' => e = .returned (.tuple #[]) ∧ RowAt w0 b es M w' := by
  obtain ⟨k, gs, cs, h, ho, hc⟩ := h
  have h1 := h.perm (M := bookL b k gs cs ++ bytesThing v l :: (qThing 24 1 k.dsv es.length (es.map En.pd) :: qThing 90 1 k.rsv es.length (es.map En.pr) :: (es.flatMap En.things ++ M))) (perm_of fun x => by
    rw [rowL]; simp only [List.cons_append, List.nil_append, tcnt_cons, tcnt_append]; omega)
  refine (leave_thing h1 ho hc hl).mono ?_
  rintro e w' ⟨rfl, n, hn, k', gs', cs', hA, hO, hR, hlen⟩
  refine ⟨rfl, k', gs', cs', ?_, hO, by omega⟩
  rw [rowL, hR.1, hR.2.1]
  exact hA
theorem stands (h : RowAt w0 b es M w) : Calls Try.prog 33 #[.pointer (some ⟨b, 2, none⟩)] w fun e w' => e = .returned (.bool true) ∧ RowAt w0 b es M w' := by
  have h' := h
  obtain ⟨k, gs, cs, h, ho, hc⟩ := h
  refine (stands_thing (M := qThing 24 1 k.dsv es.length (es.map En.pd) :: qThing 90 1 k.rsv es.length (es.map En.pr) :: (es.flatMap En.things ++ M)) h ho).mono ?_
  rintro e w' ⟨rfl, hk⟩
  exact ⟨rfl, h'.keep hk⟩
theorem ends (h : RowAt w0 b es M w) : Calls Try.prog 34 #[.pointer (some ⟨b, 2, none⟩)] w fun e w' => e = .returned (.bool true) ∧ At w0 w' [] := by
  obtain ⟨k, gs, cs, h, ho, hc⟩ := h
  exact ends_thing (M := qThing 24 1 k.dsv es.length (es.map En.pd) :: qThing 90 1 k.rsv es.length (es.map En.pr) :: (es.flatMap En.things ++ M)) h ho
theorem joins {e : En} (h : RowAt w0 b es (e.things ++ M) w) (hn : es.length ≤ 4294967296) (hl : Like e.d e.r) (hm : e.d.n ≤ 4096) (hq : e.r.log.length < 4294967296) :
    Calls Try.prog 40 #[.pointer (some ⟨b, 0, none⟩), e.pd, .int .i64 0, e.pr, .int .i64 0] w fun x w' => x = .returned (.bool true) ∧ RowAt w0 b (es ++ [e]) M w' := by
  obtain ⟨k, gs, cs, h, ho, hc⟩ := h
  refine (joins_yes h hn hl hm hq).mono ?_
  rintro x w' ⟨rfl, k', hA⟩
  exact ⟨rfl, k', gs, cs, hA, ho, hc⟩
theorem own (h : RowAt w0 b es M w) {v : Value} {l : List UInt8} (hm : bytesThing v l ∈ M) : OwnB w v l := h.get hm
end RowAt
end Go.Proofs.Ytbjffjplpnnhoaa

/-
  The row of disks of layer 4's law: told.
-/
namespace Go.Proofs.Ytbjffjplpnnhoaa
set_option linter.unusedVariables false
set_option linter.unusedSimpArgs false
open Go.RowKit

set_option maxRecDepth 100000 in
set_option maxHeartbeats 1000000 in
theorem told_thing {w0 w : World} {b : Nat} {es : List En} {M : List Thing} {v1 v2 c1 c2 : Value} {l : List UInt8} (m : Int) (h : RowAt w0 b es (bytesThing v1 l :: bytesThing v2 l :: M) w) (hc1 : bytesThing c1 l ∈ M) (hc2 : bytesThing c2 l ∈ M) (hl : l.length ≤ 16777216) :
    Calls Try.prog 48 #[.pointer (some ⟨b, 0, none⟩), v1, v2, c1, c2, .int .i64 m] w fun e w' => e = .returned (.bool true) ∧ RowAt w0 b es M w' := by
  have CS1 := Lib.hid (same_true (l1 := l) (l2 := l) (ownB_bytes (h.own (v := v1) (by simp))) (ownB_bytes (h.own (v := c1) (by simp [hc1]))) rfl)
  have H := Lib.hid h
  have HC1 := Lib.hid hc1
  have HC2 := Lib.hid hc2
  clear h hc1 hc2
  by_cases hm : (bits BinOp.and IntKind.i64 m 1 == 1) = true
  · go_enter Try.func48, Try.ntmps48
    go_wp2_with fail
    refine CS1.out.mono ?_
    rintro e w1 ⟨rfl, hk1⟩
    have H1 := Lib.hid (H.out.keep hk1)
    have CS2 := Lib.hid (same_true (l1 := l) (l2 := l) (ownB_bytes (H1.out.own (v := v2) (by simp))) (ownB_bytes (H1.out.own (v := c2) (by simp [HC2.out]))) rfl)
    clear hk1 H CS1
    go_wp2_with fail
    refine CS2.out.mono ?_
    rintro e w2 ⟨rfl, hk2⟩
    have H2 := Lib.hid (H1.out.keep hk2)
    clear hk2 H1 CS2
    have CL1 := Lib.hid (H2.out.left_ hl)
    go_wp2_with fail
    refine CL1.out.mono ?_
    rintro e w3 ⟨rfl, h3⟩
    have CL2 := Lib.hid (h3.left_ hl)
    clear h3 CL1 H2
    go_wp2_with fail
    refine CL2.out.mono ?_
    rintro e w4 ⟨rfl, h4⟩
    have H4 := Lib.hid h4
    clear h4 CL2
    go_wp2_with fail
    go_ret
    exact ⟨rfl, H4.out⟩
  · have hm' : (bits BinOp.and IntKind.i64 m 1 == 1) = false := by simpa using hm
    clear hm
    go_enter Try.func48, Try.ntmps48
    go_wp2_with fail
    refine CS1.out.mono ?_
    rintro e w1 ⟨rfl, hk1⟩
    have H1 := Lib.hid (H.out.keep hk1)
    have CS2 := Lib.hid (same_true (l1 := l) (l2 := l) (ownB_bytes (H1.out.own (v := v2) (by simp))) (ownB_bytes (H1.out.own (v := c2) (by simp [HC2.out]))) rfl)
    clear hk1 H CS1
    go_wp2_with fail
    refine CS2.out.mono ?_
    rintro e w2 ⟨rfl, hk2⟩
    have H2 := Lib.hid (H1.out.keep hk2)
    clear hk2 H1 CS2
    have CK1 := Lib.hid (H2.out.kept hl)
    go_wp2_with fail
    refine CK1.out.mono ?_
    rintro e w3 ⟨rfl, h3⟩
    have H3 := Lib.hid h3
    have CS3 := Lib.hid (same_true (l1 := l) (l2 := l) (ownB_bytes (h3.own (v := v2) (by simp))) (ownB_bytes (h3.own (v := c2) (by simp [HC2.out]))) rfl)
    clear h3 CK1 H2
    go_wp2_with fail
    refine CS3.out.mono ?_
    rintro e w4 ⟨rfl, hk4⟩
    have CK2 := Lib.hid ((H3.out.keep hk4).kept hl)
    clear hk4 H3 CS3
    go_wp2_with fail
    refine CK2.out.mono ?_
    rintro e w5 ⟨rfl, h5⟩
    have H5 := Lib.hid h5
    clear h5 CK2
    go_wp2_with fail
    go_ret
    exact ⟨rfl, H5.out⟩
end Go.Proofs.Ytbjffjplpnnhoaa

/-
  The row of disks of layer 4's law: a step as a value; bytes turned round.
-/
namespace Go.Proofs.Ytbjffjplpnnhoaa
set_option linter.unusedVariables false
set_option linter.unusedSimpArgs false
open Go.RowKit

/-- A step's argument. -/
structure OpV where
  kind : Int
  dn : Int
  n : Int
  m : Int
  dv : Value
  data : List UInt8
  pat : Nat
def OpV.cells (o : OpV) : Array Value := #[.int .i64 o.kind, .int .i64 o.dn, .int .i64 o.n, .int .i64 o.m, o.dv, .int .u32 o.pat]
structure OpV.ok (w0 : World) (o : OpV) : Prop where
  data : BytesAt w0 o.dv o.data
  blk : ∀ k, o.dv.elemBlock = some k → k < w0.heap.size
  len : o.data.length ≤ 1048576
  kd : -9223372036854775808 ≤ o.kind ∧ o.kind ≤ 9223372036854775807
  dd : -9223372036854775808 ≤ o.dn ∧ o.dn ≤ 9223372036854775807
  nn : -9223372036854775808 ≤ o.n ∧ o.n ≤ 9223372036854775807
  mm : -9223372036854775808 ≤ o.m ∧ o.m ≤ 9223372036854775807
  pt : o.pat < 4294967296
def opT (g : Nat) (o : OpV) : Thing := blockThing g (.cells o.cells 80 (0, 0))
theorem OpV.cellsAt {w : World} {g : Nat} {o : OpV} (h : w.heap[g]? = some (.cells o.cells 80 (0, 0))) :
    w.cell? ⟨g, 0, none⟩ = some (.int .i64 o.kind) ∧ w.cell? ⟨g, 1, none⟩ = some (.int .i64 o.dn) ∧ w.cell? ⟨g, 2, none⟩ = some (.int .i64 o.n) ∧ w.cell? ⟨g, 3, none⟩ = some (.int .i64 o.m) ∧ w.cell? ⟨g, 4, none⟩ = some o.dv ∧ w.cell? ⟨g, 5, none⟩ = some (.int .u32 o.pat) := by
  refine ⟨?_, ?_, ?_, ?_, ?_, ?_⟩ <;> (rw [cell_of_row w g _ _ _ _ h]; rfl)
/-- Both disks go along with one another. -/
structure EnOk (e : En) (L : Nat) : Prop where
  like : Like e.d e.r
  n : e.d.n ≤ 4096
  log : e.r.log.length ≤ L
theorem EnOk.mono {e : En} {L K : Nat} (h : EnOk e L) (hk : L ≤ K) : EnOk e K := ⟨h.like, h.n, Nat.le_trans h.log hk⟩
theorem Like.qlen {d : D} {r : R} (h : Like d r) : d.q.length ≤ r.log.length := by
  rw [← h.al.openN]
  have := openN_le r.log r.log.length (Nat.le_refl _)
  rwa [List.take_length] at this
namespace RowAt
variable {w0 w w' : World} {b : Nat} {es : List En} {M : List Thing}
theorem op (h : RowAt w0 b es M w) {g : Nat} {o : OpV} (hm : opT g o ∈ M) : w.heap[g]? = some (.cells o.cells 80 (0, 0)) := h.get hm
theorem dv (h : RowAt w0 b es M w) {o : OpV} (ho : o.ok w0) : BytesAt w o.dv o.data := ho.data.below h.below ho.blk
theorem apartD (h : RowAt w0 b es M w) {e : En} (he : e ∈ es) {t : Thing} (ht : t ∈ M) : apartT t (diskThing e.bd e.d e.FD) := by
  obtain ⟨k, gs, cs, h, ho⟩ := h
  obtain ⟨M1, M2, rfl⟩ := List.append_of_mem ht
  obtain ⟨e1, e2, rfl⟩ := List.append_of_mem he
  exact h.apart_of (R := bookL b k gs cs ++ (qThing 24 1 k.dsv (e1 ++ e :: e2).length ((e1 ++ e :: e2).map En.pd) :: qThing 90 1 k.rsv (e1 ++ e :: e2).length ((e1 ++ e :: e2).map En.pr) :: (e1.flatMap En.things ++ refThing e.br e.r e.FR :: (e2.flatMap En.things ++ (M1 ++ M2))))) (perm_of fun x => by
    rw [rowL]; simp only [List.cons_append, List.nil_append, tcnt_cons, tcnt_append, List.flatMap_append, List.flatMap_cons, En.things, tcnt_nil]; omega)
end RowAt
/-- A byte turned round. -/
def inv (x : UInt8) : UInt8 := UInt8.ofNat (bits BinOp.xor IntKind.u8 (x.toNat : Int) 255).toNat
theorem inv_int (x : UInt8) : bits BinOp.xor IntKind.u8 (x.toNat : Int) 255 = ((inv x).toNat : Int) := by
  obtain ⟨y, hy⟩ := xor_byte x.toNat x.toNat_lt
  unfold inv
  rw [hy]
  simp
def flipAt (l : List UInt8) (i : Nat) : List UInt8 := (l.take i).map inv ++ l.drop i
theorem flipAt_length (l : List UInt8) (i : Nat) : (flipAt l i).length = l.length := by simp [flipAt]; omega
theorem flipAt_zero (l : List UInt8) : flipAt l 0 = l := by simp [flipAt]
theorem flipAt_all (l : List UInt8) : flipAt l l.length = l.map inv := by simp [flipAt]
theorem flipAt_get (l : List UInt8) {i : Nat} (h : i < l.length) : (flipAt l i)[i]'(by rw [flipAt_length]; exact h) = l[i] := by
  unfold flipAt
  rw [List.getElem_append_right (by simp; omega)]
  simp [Nat.min_eq_left (Nat.le_of_lt h)]
theorem flipAt_set (l : List UInt8) {i : Nat} (h : i < l.length) : (flipAt l i).set i (inv l[i]) = flipAt l (i + 1) := by
  unfold flipAt
  rw [List.set_append_right _ _ (by simp; omega), List.length_map, List.length_take, Nat.min_eq_left (by omega), Nat.sub_self, List.drop_eq_getElem_cons h, List.set_cons_zero, List.take_succ_eq_append_getElem h, List.map_append, List.append_assoc]
  rfl
theorem roomed_set (l : List UInt8) {i : Nat} (h : i < l.length) (x : UInt8) : (roomed l).set i x = roomed (l.set i x) := by
  unfold roomed
  rw [List.set_append_left _ _ h]
theorem roomed_get (l : List UInt8) {i : Nat} (h : i < l.length) : (roomed l)[i]'(by rw [roomed_length]; omega) = l[i] := by
  unfold roomed
  rw [List.getElem_append_left h]
theorem own_block {w : World} {g N : Nat} {l : List UInt8} (h : OwnB w (.slice (some ⟨g, 0, none⟩) N N) l) : w.heap[g]? = some (.cells (l.map B).toArray 5 (0, 0)) := by
  obtain ⟨cur, hh, hn, h1, h2, h3, h4⟩ := h.row
  have e : cur = (l.map B).toArray := by
    apply Array.ext'
    rw [← h4, List.take_of_length_le (by simp; omega)]
  rw [← e]
  exact hh
/-- copy over the head of one's own bytes. -/
theorem copy_back {w : World} {g N n c : Nat} {v : Value} {l x r : List UInt8} (hO : OwnB w (.slice (some ⟨g, 0, none⟩) N N) (x ++ r)) (hx : x.length = l.length) (hv : BytesAt w v l) (hn : n = l.length) (ty : TypeId) :
    ∃ w', (Builtin.copy_ #[29, 29] ty #[.slice (some ⟨g, 0, none⟩) n c, v]).run Try.prog w = .ok (.int .i64 l.length) w' ∧ OwnB w' (.slice (some ⟨g, 0, none⟩) N N) (l ++ r) ∧ Keeps [g] w w' := by
  have hp := own_block hO
  obtain ⟨_, _, hN, _, hN2, _, _⟩ := hO.row
  simp only [maxLen] at hN2
  rcases Nat.eq_zero_or_pos l.length with h0 | h0
  · obtain rfl : l = [] := List.eq_nil_of_length_eq_zero h0
    obtain rfl : x = [] := List.eq_nil_of_length_eq_zero hx
    obtain ⟨a, c2, rfl, _, _⟩ := hv.form
    refine ⟨w, ?_, hO, Keeps.refl _ _⟩
    have := run_copy_none (P := Try.prog) w 29 29 ty 5 (some ⟨g, 0, none⟩) a n c 0 c2 Try.underlying29 (by kernel_rfl) (by simp)
    exact this
  · obtain ⟨a, c2, rfl, _, _⟩ := hv.form
    obtain ⟨go, so, rfl, hgo, hr⟩ := hv.at h0
    have := run_copy_into (o := 0) (m := n) (c1 := c) (c2 := c2) hp hr rfl (by omega) (by simp [hx]) ty
    refine ⟨_, this, ?_, ⟨rfl, rfl, rfl, by simp, fun k _ hn => setRow_other _ _ _ _ (by simpa using hn)⟩⟩
    have e : setAt (x ++ r) 0 l = l ++ r := by
      unfold setAt
      rw [List.take_zero, List.nil_append, Nat.zero_add, ← hx, List.drop_left]
    rw [e]
    refine own_whole (setRow_heap _ _ _ _ _ _ hp) ?_ hN2
    rw [hN, List.length_append, List.length_append, hx]
/-- What an act leaves. -/
def ActPost (w0 : World) (b : Nat) (xs ys : List En) (L : Nat) (x : Ending) (w' : World) : Prop := x = .returned (.bool true) ∧ ∃ e', EnOk e' L ∧ RowAt w0 b (xs ++ e' :: ys) [] w'
end Go.Proofs.Ytbjffjplpnnhoaa
