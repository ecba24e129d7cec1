/-
  The Book of layer 4's law: keep over the Book's things; wakes.
-/
import Derived.Test.YtbjffjplpnnhoaaBkC
import Derived.Test.YtbjffjplpnnhoaaBkD
namespace Go.Proofs.Ytbjffjplpnnhoaa
set_option linter.unusedVariables false
set_option linter.unusedSimpArgs false
open Go.RowKit

/-- The Book's things but the row's struct, the groups' slice, the slices of the idle ones. -/
def bookR (gs : List Grp) (cs : List Idle) : List Thing := gs.map grpThing ++ cs.flatMap Idle.things
theorem bookL_eq (b : Nat) (k : Bk) (gs : List Grp) (cs : List Idle) : bookL b k gs cs = rowThing b k :: qThing 104 4 k.gv gs.length (gs.flatMap Grp.cells) :: qThing 29 1 k.cv cs.length (cs.map Idle.v) :: qThing 29 1 k.wv cs.length (cs.map Idle.u) :: bookR gs cs := rfl
theorem idle_cons (c : Idle) (cs : List Idle) : (c :: cs).flatMap Idle.things = bytesThing c.v c.l :: bytesThing c.u c.l :: cs.flatMap Idle.things := rfl
theorem tcnt_bookR (t : Thing) (gs : List Grp) (cs : List Idle) : tcnt t (bookR gs cs) = tcnt t (gs.map grpThing) + tcnt t (cs.flatMap Idle.things) := tcnt_append _ _ _
theorem At.apart_of {w0 w : World} {L : List Thing} (h : At w0 w L) {s t : Thing} {R : List Thing} (hp : L.Perm (s :: t :: R)) : apartT s t := (h.perm hp).apart
theorem Live.apart3 {w : World} {base : Nat} {s t u : Thing} {R : List Thing} (h : Live w base (s :: t :: u :: R)) : apartT s t ∧ apartT s u ∧ apartT t u := by
  have h1 := List.pairwise_cons.1 h.apart
  have h2 := List.pairwise_cons.1 h1.2
  exact ⟨h1.1 t (by simp), h1.1 u (by simp), h2.1 u (by simp)⟩

theorem keep_thing {w0 w : World} {b : Nat} {k : Bk} {gs : List Grp} {cs : List Idle} {M : List Thing} {v : Value} {l : List UInt8} (h : At w0 w (bookL b k gs cs ++ bytesThing v l :: M)) (hok : BookOk gs cs) (hl : l.length ≤ 16777216) :
    Calls Try.prog 46 #[.pointer (some ⟨b, 2, none⟩), v] w fun e w' => e = .returned (.tuple #[]) ∧ ∃ k' gs', At w0 w' (bookL b k' gs' cs ++ M) ∧ BookOk gs' cs ∧ k.rest' k' := by
  have hP : (bookL b k gs cs ++ bytesThing v l :: M).Perm ([rowThing b k, qThing 104 4 k.gv gs.length (gs.flatMap Grp.cells), bytesThing v l] ++ (qThing 29 1 k.cv cs.length (cs.map Idle.v) :: qThing 29 1 k.wv cs.length (cs.map Idle.u) :: (bookR gs cs ++ M))) :=
    perm_of fun t => by rw [bookL_eq]; simp only [List.cons_append, List.nil_append, tcnt_cons, tcnt_append]; omega
  have hL := h.live.perm hP
  obtain ⟨a1, a2, a3⟩ := Live.apart3 hL
  have hroot : BkAt w b k := (hL.all (rowThing b k) (by simp)).1
  have hg : QOwn w 104 4 k.gv gs.length (gs.flatMap Grp.cells) := (hL.all (qThing 104 4 k.gv gs.length (gs.flatMap Grp.cells)) (by simp)).1
  have hv : OwnB w v l := (hL.all (bytesThing v l) (by simp)).1
  have hgs : ∀ g ∈ gs, g.isS := fun g hgm => by
    have hm : grpThing g ∈ [rowThing b k, qThing 104 4 k.gv gs.length (gs.flatMap Grp.cells), bytesThing v l] ++ (qThing 29 1 k.cv cs.length (cs.map Idle.v) :: qThing 29 1 k.wv cs.length (cs.map Idle.u) :: (bookR gs cs ++ M)) := by
      refine List.mem_append_right _ (List.mem_cons_of_mem _ (List.mem_cons_of_mem _ (List.mem_append_left _ (List.mem_append_left _ ?_))))
      exact List.mem_map.2 ⟨g, hgm, rfl⟩
    exact (show g.ok w ∧ g.isS from (hL.all (grpThing g) hm).1).2
  have hn1 : k.gv.ownBlock ≠ some b := fun e => a1 b (by simp [rowThing]) (by simp [qThing, e])
  have hn2 : v.ownBlock ≠ some b := fun e => a2 b (by simp [rowThing]) (by simp [bytesThing, e])
  have hn3 : ∀ j, k.gv.ownBlock = some j → v.ownBlock ≠ some j := fun j h1 e => a3 j (by simp [qThing, h1]) (by simp [bytesThing, e])
  have hb := hroot
  refine (lKeep_any hroot hg hok.gl hgs hv hl hn1 hn2 hn3).mono ?_
  rintro e w' ⟨rfl, gv', size', G, j, hB, hj, hle, hQ, hG, hGS, hGF, hgv, hk⟩
  refine ⟨rfl, { k with gv := gv', size := size', next := wrap64 (k.next + 1) }, (gs ++ [G]).drop j, ?_, ⟨hle, hok.cl, hok.ll⟩, ⟨rfl, rfl, rfl⟩⟩
  have hlt := lt_of_heap hb
  have hF := h.frame (w' := w') (S' := [rowThing b { k with gv := gv', size := size', next := wrap64 (k.next + 1) }, qThing 104 4 gv' ((gs ++ [G]).drop j).length (((gs ++ [G]).drop j).flatMap Grp.cells), grpThing G]) hP
    (by
      refine hk.mono (fun i hi => .inl ?_)
      simp only [foots, List.flatMap_cons, List.flatMap_nil, List.append_nil, List.mem_append, rowThing, qThing, bytesThing, List.mem_cons, List.not_mem_nil, or_false] at hi ⊢
      exact hi)
    (fun t ht => by
      simp only [List.mem_cons, List.not_mem_nil, or_false] at ht
      rcases ht with rfl | rfl | rfl
      · exact hB
      · exact hQ
      · exact ⟨hG, hGS⟩)
    (fun i hi => by
      simp only [foots, List.flatMap_cons, List.flatMap_nil, List.append_nil, List.mem_append, rowThing, qThing, bytesThing, grpThing, List.mem_cons, List.not_mem_nil, or_false, Option.mem_toList] at hi ⊢
      rcases hi with rfl | hi | hi
      · exact .inl (.inl rfl)
      · rcases (hgv i hi).1 with h1 | h1
        · exact .inl (.inr (.inl h1))
        · exact .inr h1
      · rcases hGF i hi with h1 | h1
        · exact .inl (.inr (.inr h1))
        · exact .inr h1)
    (by
      refine .cons (fun t ht => ?_) (.cons (fun t ht => ?_) (.cons (by simp) .nil))
      · simp only [List.mem_cons, List.not_mem_nil, or_false] at ht
        intro i hi
        simp only [rowThing, List.mem_singleton] at hi
        subst hi
        rcases ht with rfl | rfl
        · simp only [qThing, Option.mem_toList]
          exact fun e => (hgv i e).1.elim hn1 (by omega)
        · simp only [grpThing]
          exact fun e => (hGF i e).elim hn2 (by omega)
      · simp only [List.mem_cons, List.not_mem_nil, or_false] at ht
        subst ht
        intro i hi
        simp only [qThing, Option.mem_toList] at hi
        exact (hgv i hi).2)
  have hP2 : ([rowThing b { k with gv := gv', size := size', next := wrap64 (k.next + 1) }, qThing 104 4 gv' ((gs ++ [G]).drop j).length (((gs ++ [G]).drop j).flatMap Grp.cells), grpThing G] ++ (qThing 29 1 k.cv cs.length (cs.map Idle.v) :: qThing 29 1 k.wv cs.length (cs.map Idle.u) :: (bookR gs cs ++ M))).Perm
      (((gs ++ [G]).take j).map grpThing ++ (bookL b { k with gv := gv', size := size', next := wrap64 (k.next + 1) } ((gs ++ [G]).drop j) cs ++ M)) :=
    perm_of fun t => by
      have e : tcnt t (((gs ++ [G]).take j).map grpThing) + tcnt t (((gs ++ [G]).drop j).map grpThing) = tcnt t (gs.map grpThing) + tone t (grpThing G) := by
        rw [← tcnt_append, ← List.map_append, List.take_append_drop, List.map_append, tcnt_append]
        rfl
      rw [bookL_eq]
      simp only [List.cons_append, List.nil_append, tcnt_cons, tcnt_append, tcnt_bookR]
      omega
  exact (hF.perm hP2).sub (List.sublist_append_right _ _)
end Go.Proofs.Ytbjffjplpnnhoaa

/-
  The Book of layer 4's law: wakes.
-/
namespace Go.Proofs.Ytbjffjplpnnhoaa
set_option linter.unusedVariables false
set_option linter.unusedSimpArgs false
open Go.RowKit

set_option maxRecDepth 100000 in
set_option maxHeartbeats 1000000 in
theorem wakes_thing {w0 w : World} {b : Nat} {k : Bk} {gs : List Grp} {c : Idle} {cs : List Idle} {M : List Thing} (h : At w0 w (bookL b k gs (c :: cs) ++ M)) (hok : BookOk gs (c :: cs)) :
    Calls Try.prog 55 #[.pointer (some ⟨b, 2, none⟩)] w fun e w' => e = .returned (.tuple #[]) ∧ ∃ k' gs', At w0 w' (bookL b k' gs' cs ++ M) ∧ BookOk gs' cs ∧ k.rest' k' := by
  obtain ⟨dsv, rsv, gv, size, next, cv, wv, rest, pages⟩ := k
  have hP : (bookL b ⟨dsv, rsv, gv, size, next, cv, wv, rest, pages⟩ gs (c :: cs) ++ M).Perm ([rowThing b ⟨dsv, rsv, gv, size, next, cv, wv, rest, pages⟩, qThing 29 1 cv (cs.length + 1) (c.v :: cs.map Idle.v), qThing 29 1 wv (cs.length + 1) (c.u :: cs.map Idle.u)] ++ (qThing 104 4 gv gs.length (gs.flatMap Grp.cells) :: (bookR gs (c :: cs) ++ M))) :=
    perm_of fun t => by rw [bookL_eq]; simp only [List.cons_append, List.nil_append, tcnt_cons, tcnt_append, List.length_cons, List.map_cons]; omega
  have hL := h.live.perm hP
  obtain ⟨a1, a2, a3⟩ := Live.apart3 hL
  have hroot : BkAt w b ⟨dsv, rsv, gv, size, next, cv, wv, rest, pages⟩ := (hL.all (rowThing b ⟨dsv, rsv, gv, size, next, cv, wv, rest, pages⟩) (by simp)).1
  have hcv : QOwn w 29 1 cv (cs.length + 1) (c.v :: cs.map Idle.v) := (hL.all (qThing 29 1 cv (cs.length + 1) (c.v :: cs.map Idle.v)) (by simp)).1
  have hwv : QOwn w 29 1 wv (cs.length + 1) (c.u :: cs.map Idle.u) := (hL.all (qThing 29 1 wv (cs.length + 1) (c.u :: cs.map Idle.u)) (by simp)).1
  have hv : OwnB w c.v c.l := (hL.all (bytesThing c.v c.l) (by simp [bookR, Idle.things])).1
  have hu : OwnB w c.u c.l := (hL.all (bytesThing c.u c.l) (by simp [bookR, Idle.things])).1
  have hcb : cv.ownBlock ≠ some b := fun e => a1 b (by simp [rowThing]) (by simp [qThing, e])
  have hwb : wv.ownBlock ≠ some b := fun e => a2 b (by simp [rowThing]) (by simp [qThing, e])
  have hcl := hok.ll c (by simp)
  have CS := (lSame_any (ownB_bytes hv) (ownB_bytes hu))
  obtain ⟨cn, hcn⟩ : ∃ cn, cn = cs.length := ⟨_, rfl⟩
  rw [← hcn] at hcv hwv
  obtain ⟨ac, cc, rfl, _, hc2⟩ := hcv.form
  obtain ⟨aw, cw, rfl, _, hw2⟩ := hwv.form
  obtain ⟨g1, o1, cap1, e1, hg1, hr1⟩ := hcv.at (by omega)
  obtain ⟨g2, o2, cap2, e2, hg2, hr2⟩ := hwv.at (by omega)
  injection e1 with e1 e1n e1c
  injection e2 with e2 e2n e2c
  clear e1n e2n
  subst e1 e2 e1c e2c
  have q1 := hr1 0 c.v rfl
  have q2 := hr2 0 c.u rfl
  simp only [Nat.add_zero] at q1 q2
  obtain ⟨av, sv, ev⟩ := owns_slice' hv
  obtain ⟨au, su, eu⟩ := owns_slice' hu
  obtain ⟨ln, hln⟩ : ∃ ln, ln = c.l.length := ⟨_, rfl⟩
  have hcn0 : (0 : Int) < (cn : Int) + 1 := by omega
  have e1' : (Value.slice (some ⟨g1, o1, none⟩) (cn + 1) cc).ownBlock = some g1 := rfl
  have e2' : (Value.slice (some ⟨g2, o2, none⟩) (cn + 1) cw).ownBlock = some g2 := rfl
  obtain ⟨hq1, ho1⟩ := QOwn.rest (size := 1) (x := [c.v]) (by simpa using hcv) (by omega) rfl
  obtain ⟨hq2, ho2⟩ := QOwn.rest (size := 1) (x := [c.u]) (by simpa using hwv) (by omega) rfl
  rw [Nat.add_sub_cancel] at hq1 ho1 hq2 ho2
  obtain ⟨a1', ha1⟩ : ∃ a, a = rest1 g1 o1 1 cc := ⟨_, rfl⟩
  obtain ⟨a2', ha2⟩ : ∃ a, a = rest1 g2 o2 1 cw := ⟨_, rfl⟩
  obtain ⟨c1', hc1⟩ : ∃ c, c = cc - 1 := ⟨_, rfl⟩
  obtain ⟨c2', hc2'⟩ : ∃ c, c = cw - 1 := ⟨_, rfl⟩
  rw [← ha1, ← hc1] at hq1 ho1
  rw [← ha2, ← hc2'] at hq2 ho2
  rw [← e1'] at ho1
  rw [← e2'] at ho2
  rw [ev, eu] at CS
  rw [ev] at q1
  rw [eu] at q2
  rw [← hln] at CS q1 q2
  have CS2 : Calls Try.prog 17 #[.slice av ln sv, .slice au ln su] w fun e w' => e = .returned (.bool true) ∧ Keeps [] w w' := CS.mono fun e w' h => ⟨by simpa using h.1, h.2⟩
  have HCS := Lib.hid CS2
  have HROOT := Lib.hid hroot
  have q5 := hroot.at.2.2.2.2.2.1
  have q6 := hroot.at.2.2.2.2.2.2.1
  have q8 := hroot.at.2.2.2.2.2.2.2.2.1
  simp only at q5 q6 q8
  have hnext : ∀ w1, Keeps [] w w1 → At w0 ((((w1.setCell ⟨b, 8, none⟩ (.bool false)).setCell ⟨b, 7, none⟩ (.int .i64 (wrap64 (rest - (ln : Int))))).setCell ⟨b, 5, none⟩ (.slice a1' cn c1')).setCell ⟨b, 6, none⟩ (.slice a2' cn c2'))
      (bookL b ⟨dsv, rsv, gv, size, next, .slice a1' cn c1', .slice a2' cn c2', wrap64 (rest - (ln : Int)), pages⟩ gs cs ++ bytesThing c.v c.l :: M) := by
    intro w1 hk1
    obtain ⟨w5, hw5⟩ : ∃ w5, w5 = (((w1.setCell ⟨b, 8, none⟩ (.bool false)).setCell ⟨b, 7, none⟩ (.int .i64 (wrap64 (rest - (ln : Int))))).setCell ⟨b, 5, none⟩ (.slice a1' cn c1')).setCell ⟨b, 6, none⟩ (.slice a2' cn c2') := ⟨_, rfl⟩
    rw [← hw5]
    have hB1 : BkAt w1 b ⟨dsv, rsv, gv, size, next, .slice (some ⟨g1, o1, none⟩) (cn + 1) cc, .slice (some ⟨g2, o2, none⟩) (cn + 1) cw, rest, pages⟩ := hroot.keep (hk1.block b (lt_of_heap hroot) (by simp))
    have hB5 : BkAt w5 b ⟨dsv, rsv, gv, size, next, .slice a1' cn c1', .slice a2' cn c2', wrap64 (rest - (ln : Int)), pages⟩ := by
      rw [hw5]
      have s1 := hB1.set (k' := ⟨dsv, rsv, gv, size, next, .slice (some ⟨g1, o1, none⟩) (cn + 1) cc, .slice (some ⟨g2, o2, none⟩) (cn + 1) cw, rest, pages⟩) 8 (.bool false) rfl
      have s2 := s1.set (k' := ⟨dsv, rsv, gv, size, next, .slice (some ⟨g1, o1, none⟩) (cn + 1) cc, .slice (some ⟨g2, o2, none⟩) (cn + 1) cw, wrap64 (rest - (ln : Int)), pages⟩) 7 (.int .i64 (wrap64 (rest - (ln : Int)))) rfl
      have s3 := s2.set (k' := ⟨dsv, rsv, gv, size, next, .slice a1' cn c1', .slice (some ⟨g2, o2, none⟩) (cn + 1) cw, wrap64 (rest - (ln : Int)), pages⟩) 5 (.slice a1' cn c1') rfl
      exact s3.set 6 (.slice a2' cn c2') rfl
    have hk5 : Keeps [b] w w5 := by
      rw [hw5]
      exact ((((hk1.mono (G := [b]) (by simp)).setCell (.inl (by simp)) _).setCell (.inl (by simp)) _).setCell (.inl (by simp)) _).setCell (.inl (by simp)) _
    have hF := h.frame (w' := w5) (S' := [rowThing b ⟨dsv, rsv, gv, size, next, .slice a1' cn c1', .slice a2' cn c2', wrap64 (rest - (ln : Int)), pages⟩, qThing 29 1 (.slice a1' cn c1') cn (cs.map Idle.v), qThing 29 1 (.slice a2' cn c2') cn (cs.map Idle.u)]) hP
      (hk5.mono (fun i hi => .inl (by simp only [List.mem_singleton] at hi; simp [foots, rowThing, hi])))
      (fun t ht => by
        simp only [List.mem_cons, List.not_mem_nil, or_false] at ht
        rcases ht with rfl | rfl | rfl
        · exact hB5
        · exact hq1.keep (fun i hi => hk5.block i (hq1.lt i hi) (by rw [ho1] at hi; simp; rintro rfl; exact hcb hi))
        · exact hq2.keep (fun i hi => hk5.block i (hq2.lt i hi) (by rw [ho2] at hi; simp; rintro rfl; exact hwb hi)))
      (fun i hi => .inl (by
        simp only [foots, List.flatMap_cons, List.flatMap_nil, List.append_nil, List.mem_append, rowThing, qThing, List.mem_cons, List.not_mem_nil, or_false, ho1, ho2] at hi ⊢
        exact hi))
      (by
        refine .cons (fun t ht => ?_) (.cons (fun t ht => ?_) (.cons (by simp) .nil))
        · simp only [List.mem_cons, List.not_mem_nil, or_false] at ht
          rcases ht with rfl | rfl
          · intro i hi
            simp only [qThing, ho1]
            exact a1 i hi
          · intro i hi
            simp only [qThing, ho2]
            exact a2 i hi
        · simp only [List.mem_cons, List.not_mem_nil, or_false] at ht
          subst ht
          intro i hi
          simp only [qThing, ho1, ho2] at hi ⊢
          exact a3 i hi)
    refine (hF.perm (M := [bytesThing c.u c.l] ++ (bookL b ⟨dsv, rsv, gv, size, next, .slice a1' cn c1', .slice a2' cn c2', wrap64 (rest - (ln : Int)), pages⟩ gs cs ++ bytesThing c.v c.l :: M)) (perm_of fun t => ?_)).sub (List.sublist_append_right _ _)
    rw [bookL_eq]
    simp only [List.cons_append, List.nil_append, tcnt_cons, tcnt_append, tcnt_bookR, idle_cons, ← hcn]
    omega
  have HNX := Lib.hid hnext
  have hok2 : BookOk gs cs := ⟨hok.gl, by have := hok.cl; simp at this; omega, fun d hd => hok.ll d (by simp [hd])⟩
  have CK := Lib.hid (fun w1 (hk1 : Keeps [] w w1) => keep_thing (hnext w1 hk1) hok2 hcl)
  rw [ev, ← hln] at CK
  have hll : ln ≤ 16777216 := by omega
  unfold rest1 at ha1 ha2
  rw [ha1, ha2, hc1, hc2'] at CK
  clear hnext ha1 ha2 hc1 hc2' e1' e2' hq1 hq2 ho1 ho2 hln hcn CS CS2 hcl hr1 hr2 hcv hwv hv hu hL hP h a1 a2 a3 hcb hwb hroot hok hok2 ev eu
  go_enter Try.func55, Try.ntmps55
  go_upto_region 2 with (go_at_call 17; refine HCS.out.mono ?_; rintro e w1 ⟨rfl, hk1⟩; have hB1 := HROOT.out.keep (hk1.block b (lt_of_heap HROOT.out) (by simp)); have f5 := hB1.free 5; have f6 := hB1.free 6; have f7 := hB1.free 7; have f8 := hB1.free 8; obtain ⟨_, _, _, _, _, d5, d6, d7, d8, _⟩ := hB1.at; simp only at d5 d6 d7 d8; have HK1 := Lib.hid hk1; clear hk1 hB1)
  go_wp2_with (go_at_call 46; refine (CK.out w1 HK1.out).mono ?_; rintro e w' ⟨rfl, k', gs', HA, HO, HR⟩)
  all_goals
    go_end0
    exact ⟨rfl, k', gs', HA, HO, ⟨HR.1, HR.2.1, HR.2.2⟩⟩
end Go.Proofs.Ytbjffjplpnnhoaa
