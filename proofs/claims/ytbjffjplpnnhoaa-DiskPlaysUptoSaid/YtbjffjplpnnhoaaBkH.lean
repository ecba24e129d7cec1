/-
  The Book of layer 4's law: stands.
-/
import Derived.Test.YtbjffjplpnnhoaaBkF
namespace Go.Proofs.Ytbjffjplpnnhoaa
set_option linter.unusedVariables false
set_option linter.unusedSimpArgs false
open Go.RowKit

theorem Grp.part {w : World} {g : Grp} (h : g.ok w) (hs : g.isS) {q : Nat} (hq : q < 3) : ∃ a m c, g.cells[q]? = some (.slice a m c) ∧ OwnB w (.slice a m c) (marks g.mark m) ∧ m ≤ 33554432 := by
  obtain ⟨m0, m1, m2, b0, b1, b2, h0, h1, h2⟩ := h
  obtain ⟨⟨a0, n0, k0, e0⟩, ⟨a1, n1, k1, e1⟩, ⟨a2, n2, k2, e2⟩⟩ := hs
  have key : ∀ a n c m, OwnB w (.slice a n c) (marks g.mark m) → n = m := by
    intro a n c m ho
    obtain ⟨a', c', e⟩ := owns_slice' ho
    injection e with _ e _
    rw [marks_length] at e
    exact e
  rw [e0] at h0
  rw [e1] at h1
  rw [e2] at h2
  obtain rfl := key _ _ _ _ h0
  obtain rfl := key _ _ _ _ h1
  obtain rfl := key _ _ _ _ h2
  match q, hq with
  | 0, _ => exact ⟨a0, n0, k0, by rw [Grp.cells, e0]; rfl, h0, b0⟩
  | 1, _ => exact ⟨a1, n1, k1, by rw [Grp.cells, e1]; rfl, h1, b1⟩
  | 2, _ => exact ⟨a2, n2, k2, by rw [Grp.cells, e2]; rfl, h2, b2⟩
theorem grp_at (gs : List Grp) {j : Nat} (hj : j < gs.length) : ∃ xs zs, gs.flatMap Grp.cells = xs ++ gs[j].cells ++ zs ∧ xs.length = j * 4 := by
  refine ⟨(gs.take j).flatMap Grp.cells, (gs.drop (j + 1)).flatMap Grp.cells, ?_, ?_⟩
  · have e : gs = gs.take j ++ gs[j] :: gs.drop (j + 1) := by rw [← List.drop_eq_getElem_cons hj, List.take_append_drop]
    conv => lhs; rw [e]
    rw [List.flatMap_append, List.flatMap_cons, List.append_assoc]
  · have : ∀ l : List Grp, (l.flatMap Grp.cells).length = l.length * 4 := by
      intro l
      induction l with
      | nil => rfl
      | cons x l ih => rw [List.flatMap_cons, List.length_append, ih]; simp [Grp.cells]; omega
    rw [this, List.length_take, Nat.min_eq_left (by omega)]
theorem size_group : (Try.prog.info? 104).map (·.size) = some 4 := by kernel_rfl
theorem store_group (w : World) {l : List Value} (h : l.length = 4) (h1 : ∀ v ∈ l, v.oneCell' = true) : (Instr.storeAt 104 (.pointer (some ⟨w.heap.size, 0, none⟩)) (.agg l.toArray)).run Try.prog (w.alloc (.cells #[.slice none 0 0, .slice none 0 0, .slice none 0 0, .int .i64 0] 104)) = .ok () (w.alloc (.cells l.toArray 104)) :=
  run_storeAt_new w 104 #[.slice none 0 0, .slice none 0 0, .slice none 0 0, .int .i64 0] l.toArray (by rw [size_group]; simp [h]) (by simp [h]) (all_oneCell_toArray h1)
theorem Grp.ones {g : Grp} (hs : g.isS) : ∀ u ∈ g.cells, u.oneCell' = true := by
  obtain ⟨⟨a0, n0, k0, e0⟩, ⟨a1, n1, k1, e1⟩, ⟨a2, n2, k2, e2⟩⟩ := hs
  intro u hu
  rw [Grp.cells, e0, e1, e2] at hu
  simp only [List.mem_cons, List.not_mem_nil, or_false] at hu
  rcases hu with rfl | rfl | rfl | rfl <;> rfl
set_option maxRecDepth 100000 in
set_option maxHeartbeats 1000000 in
theorem stands_thing {w0 w : World} {b : Nat} {k : Bk} {gs : List Grp} {cs : List Idle} {M : List Thing} (h : At w0 w (bookL b k gs cs ++ M)) (hok : BookOk gs cs) :
    Calls Try.prog 33 #[.pointer (some ⟨b, 2, none⟩)] w fun e w' => e = .returned (.bool true) ∧ Keeps [] w w' := by
  obtain ⟨dsv, rsv, gv, size, next, cv, wv, rest, pages⟩ := k
  have hroot : BkAt w b ⟨dsv, rsv, gv, size, next, cv, wv, rest, pages⟩ := h.get (t := rowThing b ⟨dsv, rsv, gv, size, next, cv, wv, rest, pages⟩) (by simp [bookL_eq])
  have hg : QOwn w 104 4 gv gs.length (gs.flatMap Grp.cells) := h.get (t := qThing 104 4 gv gs.length (gs.flatMap Grp.cells)) (by simp [bookL_eq])
  have hgs : ∀ g ∈ gs, g.ok w ∧ g.isS := fun g hgm => h.get (t := grpThing g) (by
    rw [bookL_eq]
    refine List.mem_append_left _ (List.mem_cons_of_mem _ (List.mem_cons_of_mem _ (List.mem_cons_of_mem _ (List.mem_cons_of_mem _ (List.mem_append_left _ ?_)))))
    exact List.mem_map.2 ⟨g, hgm, rfl⟩)
  obtain ⟨n, hn⟩ : ∃ n, n = gs.length := ⟨_, rfl⟩
  have hgl := hok.gl
  rw [← hn] at hg hgl
  obtain ⟨ag, cg, rfl, hc1, hc2⟩ := hg.form
  have HROOT := Lib.hid hroot
  have HG := Lib.hid hg
  have HGS := Lib.hid hgs
  have HN := Lib.hid hn
  clear hroot hg hgs hn h hok
  go_enter Try.func33, Try.ntmps33
  go_wp2_with fail
  go_loopw [3] (fun i wr => ∃ j : Nat, j ≤ n ∧ i = .int .i64 j ∧ Keeps [] w wr) (fun i _ => n - (intOf i).toNat)
  case atStart => exact ⟨0, Nat.zero_le _, rfl, Keeps.refl _ _⟩
  case round =>
    obtain ⟨j, hj, rfl, hkr⟩ := hrel
    have j0 : (0 : Int) ≤ (j : Int) := by omega
    have hB := HROOT.out.keep (hkr.block b (lt_of_heap HROOT.out) (by simp))
    obtain ⟨_, _, q2, _, _, _, _, _, q8, _⟩ := hB.at
    simp only at q2 q8
    have HKR := Lib.hid hkr
    by_cases hlt : j < n
    · have j1 : (j : Int) < (n : Int) := by omega
      have hjl : j < gs.length := by rw [← HN.out]; exact hlt
      obtain ⟨X, hX⟩ : ∃ X, X = gs[j] := ⟨_, rfl⟩
      have hXm := HGS.out X (by rw [hX]; exact List.getElem_mem _)
      have hQ := HG.out.keep (w' := wr) (fun i hi => hkr.block i (HG.out.lt i hi) (by simp))
      obtain ⟨g9, o9, cap9, hv9, hg9, hr9⟩ := hQ.at (by omega)
      injection hv9 with e3 e3n e3c
      clear e3n
      subst e3 e3c
      obtain ⟨xs, zs, hsp, hxl⟩ := grp_at gs hjl
      rw [hsp] at hr9
      have hrX := range_sub hr9
      rw [hxl, ← hX] at hrX
      have hX4 : X.cells.length = 4 := rfl
      obtain ⟨XC, hXC⟩ : ∃ XC, XC = X.cells := ⟨_, rfl⟩
      have hone := Grp.ones hXm.2
      rw [← hXC] at hrX hX4 hone
      obtain ⟨we, hwe⟩ : ∃ we, we = wr.alloc (.cells XC.toArray 104) := ⟨_, rfl⟩
      have hkwe : Keeps [] wr we := by rw [hwe]; exact (Keeps.refl _ _).alloc _
      have heh : we.heap[wr.heap.size]? = some (.cells XC.toArray 104 (0, 0)) := by rw [hwe]; exact heap_new_at rfl
      have hmk : X.cells[3]? = some (.int .i64 X.mark) := rfl
      have hcell : ∀ q, q < 3 → ∃ a m c, we.cell? ⟨wr.heap.size, q, none⟩ = some (.slice a m c) ∧ OwnB we (.slice a m c) (marks X.mark m) ∧ m ≤ 33554432 := by
        intro q hq
        obtain ⟨a, m, c, e1, e2, e3⟩ := Grp.part hXm.1 hXm.2 hq
        refine ⟨a, m, c, ?_, ownsRow_keep e2 (fun i hi => (hkr.trans (G := []) hkwe (by simp)).block i (World.ownsRow.lt e2 i hi).2 (by simp)), e3⟩
        rw [cell_of_row we wr.heap.size _ _ _ _ heh, List.getElem?_toArray, hXC]
        exact e1
      have hcm : we.cell? ⟨wr.heap.size, 3, none⟩ = some (.int .i64 X.mark) := by
        rw [cell_of_row we wr.heap.size _ _ _ _ heh, List.getElem?_toArray, hXC]
        exact hmk
      have hge : wr.heap.size < we.heap.size := lt_of_heap heh
      have HWE := Lib.hid hwe
      have HKE := Lib.hid hkwe
      have HCE := Lib.hid hcell
      have HHE := Lib.hid heh
      obtain ⟨mk, hmk2⟩ : ∃ mk, mk = X.mark := ⟨_, rfl⟩
      rw [← hmk2] at HCE hcm
      clear hXm hX hQ hg9 hsp hxl hr9 hwe hkwe hcell hmk heh hXC hmk2 hkr hB q8
      go_upto_region 5 with (first | (refine wl_load rfl 104 (.tmp 21) rfl ?_; refine ⟨_, _, run_loadAt_mid _ _ _ _ _ _ hrX Try.underlying104 rfl (by rw [size_group, hX4]), ?_⟩; try simp only [Act.put, List.setIfInBounds_toArray, List.set_cons_zero, List.set_cons_succ, List.getElem_toArray, List.getElem_cons_zero, List.getElem_cons_succ]) | (refine wl_store rfl 104 (.tmp 4) (.tmp 22) rfl ?_; refine ⟨_, store_group wr hX4 hone, ?_⟩; try simp only [Act.put, List.setIfInBounds_toArray, List.set_cons_zero, List.set_cons_succ, List.getElem_toArray, List.getElem_cons_zero, List.getElem_cons_succ]))
      rw [← HWE.out]
      clear q2 hrX hone hX4
      obtain ⟨g4, hg4⟩ : ∃ g4, g4 = wr.heap.size := ⟨_, rfl⟩
      rw [← hg4] at hge hcm HCE ⊢
      clear hg4
      go_wp2_with fail
      go_loopw [5] (fun i wx => ∃ q : Nat, q ≤ 3 ∧ i = .int .i64 q ∧ Keeps [] we wx) (fun i _ => 3 - (intOf i).toNat)
      case atStart => exact ⟨0, by omega, rfl, Keeps.refl _ _⟩
      case round =>
        obtain ⟨q, hq, rfl, hkx⟩ := hrel
        obtain ⟨wx, rfl⟩ : ∃ wx : World, wx = wr := ⟨_, rfl⟩
        have q0 : (0 : Int) ≤ (q : Int) := by omega
        have HKX := Lib.hid hkx
        by_cases hq3 : q < 3
        · have q1 : (q : Int) < 3 := by omega
          obtain ⟨a, m, c, hcq, hO, hm⟩ := HCE.out q hq3
          have hcx : ∀ wy, Keeps [] wx wy → wy.cell? ⟨g4, q, none⟩ = some (.slice a m c) ∧ wy.cell? ⟨g4, 3, none⟩ = some (.int .i64 mk) := fun wy hy => by
            have hky := (hkx.trans (G := []) hy (by simp)).block g4 hge (by simp)
            exact ⟨(World.cell?_of_block hky).trans hcq, (World.cell?_of_block hky).trans hcm⟩
          have HCX := Lib.hid hcx
          have HO := Lib.hid hO
          clear hcx hO hcq hkx
          go_wp2_with fail
          go_loopw [6] (fun i wy => ∃ x : Nat, x ≤ m ∧ i = .int .i64 x ∧ Keeps [] wx wy) (fun i _ => m - (intOf i).toNat)
          case atStart => exact ⟨0, Nat.zero_le _, rfl, Keeps.refl _ _⟩
          case round =>
            obtain ⟨x, hx, rfl, hky⟩ := hrel
            obtain ⟨wy, rfl⟩ : ∃ wy : World, wy = wr := ⟨_, rfl⟩
            have x0 : (0 : Int) ≤ (x : Int) := by omega
            obtain ⟨c1, c2⟩ := HCX.out wy hky
            have HKY := Lib.hid hky
            by_cases hxm : x < m
            · have x1 : (x : Int) < (m : Int) := by omega
              obtain ⟨gl, rfl⟩ := own_at HO.out (by omega)
              have hcl := HO.out.cell x (by rw [marks_length]; exact hxm)
              have hclx : wy.cell? ⟨gl, x, none⟩ = some (.int .u8 (mkAt mk x).toNat) := by
                have hlt2 := (World.ownsRow.lt HO.out gl rfl).2
                rw [World.cell?_of_block (w := we) (w' := wy) (a := ⟨gl, x, none⟩) ((HKX.out.trans (G := []) hky (by simp)).block gl hlt2 (by simp)), hcl]
                simp [B, marks]
              have t1 : (((mkAt mk x).toNat : Int) != ((mkAt mk x).toNat : Int)) = false := by simp
              have CM := Lib.hid (fun W => lMark_any (w := W) mk x (by omega))
              clear hcl hky
              go_wp2_with fail
              go_quiet ((go_at_call 54; exact (CM.out _).mono (fun _ _ h => ⟨h.1, _, h.2.symm⟩)))
              go_wp2_with fail
              go_roundw
              case rel => exact ⟨x + 1, by omega, by go_num, HKY.out.drewN _⟩
              case measure => simp [intOf]; omega
            · have x1 : ¬ (x : Int) < (m : Int) := by omega
              clear hky
              go_wp2_with fail
              go_roundw
              case rel => exact ⟨q + 1, by omega, by go_num, HKX.out.trans (G := []) HKY.out (by simp)⟩
              case measure => simp [intOf]; omega
        · have q1 : ¬ (q : Int) < 3 := by omega
          clear hkx
          go_wp2_with fail
          go_roundw
          case rel => exact ⟨j + 1, by omega, by go_num, (HKR.out.trans (G := []) HKE.out (by simp)).trans (G := []) HKX.out (by simp)⟩
          case measure => simp [intOf]; omega
    · have j1 : ¬ (j : Int) < (n : Int) := by omega
      go_wp2_with fail
      go_ret
      exact ⟨rfl, HKR.out⟩
end Go.Proofs.Ytbjffjplpnnhoaa

/-
  The Book of layer 4's law: a value pushed on one of the row's slices; leave; ends.
-/
namespace Go.Proofs.Ytbjffjplpnnhoaa
set_option linter.unusedVariables false
set_option linter.unusedSimpArgs false
open Go.RowKit

theorem push_row {w0 w : World} {b : Nat} {k : Bk} {t ts : TypeId} {qv x z : Value} {n by' : Nat} {xs : List Value} {R : List Thing} (h : At w0 w (rowThing b k :: qThing t 1 qv n xs :: R)) (ht : Try.prog.underlying ts = some (.slice t)) (hinfo : (Try.prog.info? t).map (fun i => (i.zero, i.size, i.bytes)) = some (some z, 1, by')) (hzs : z.cells.size = 1)
    (hx : x.oneCell' = true) (hn : n ≤ 4294967296) (hby : by' ≤ 1024) (j : Nat) (k' : Value → Bk) (hk : ∀ v, k.cells.setIfInBounds j v = (k' v).cells) (ty : TypeId) :
    ∃ g o c wA, (Builtin.append_ #[ts, ts] ty #[qv, .slice (some ⟨w.heap.size, 0, none⟩) 1 1]).run Try.prog (w.alloc (.cells #[x] t (0, 0))) = .ok (.slice (some ⟨g, o, none⟩) (n + 1) c) wA ∧ BkAt wA b k ∧
      At w0 (wA.setCell ⟨b, j, none⟩ (.slice (some ⟨g, o, none⟩) (n + 1) c)) (rowThing b (k' (.slice (some ⟨g, o, none⟩) (n + 1) c)) :: qThing t 1 (.slice (some ⟨g, o, none⟩) (n + 1) c) (n + 1) (xs ++ [x]) :: R) := by
  have hroot : BkAt w b k := h.get (t := rowThing b k) (by simp)
  have hq : QOwn w t 1 qv n xs := h.get (t := qThing t 1 qv n xs) (by simp)
  have hap := h.apart
  have hqb : qv.ownBlock ≠ some b := fun e => hap b (by simp [rowThing]) (by simp [qThing, e])
  obtain ⟨w1, hw1⟩ : ∃ w1, w1 = w.alloc (.cells #[x] t (0, 0)) := ⟨_, rfl⟩
  have hk1 : Keeps [] w w1 := by rw [hw1]; exact (Keeps.refl _ _).alloc _
  have hq1 := hq.keep (w' := w1) (fun i hi => hk1.block i (hq.lt i hi) (by simp))
  have hr1 := hroot.keep (w' := w1) (hk1.block b (lt_of_heap hroot) (by simp))
  obtain ⟨i, hi, hz, hs, hb⟩ := info_parts hinfo
  obtain ⟨g, o, c, wA, hr, hQ, hkA, hg⟩ := hq1.append (ts := ts) (ty := ty) (c := 1) ht hi hz hs hb hzs (by omega) (news := [x]) rfl (B := w.heap.size) (fr := (0, 0)) (by rw [hw1]; exact heap_new_at rfl) (by simpa using hx) hn (by
    have : (n + 1) * by' ≤ 4294967297 * 1024 := Nat.mul_le_mul (by omega) hby
    omega)
  have hrA := hr1.keep (w' := wA) (hkA.block b (lt_of_heap hr1) (by simpa using hqb))
  have hgb : g ≠ b := by
    rcases hg with hg | hg
    · exact fun e => hqb (by rw [hg, e])
    · have := lt_of_heap hr1; omega
  refine ⟨g, o, c, wA, by rw [← hw1]; exact hr, hrA, ?_⟩
  have hkw : Keeps (b :: qv.ownBlock.toList) w (wA.setCell ⟨b, j, none⟩ (.slice (some ⟨g, o, none⟩) (n + 1) c)) :=
    ((hk1.mono (G := b :: qv.ownBlock.toList) (by simp)).trans hkA (fun i hi => .inl (by simp at hi ⊢; exact .inr hi))).setCell (.inl (by simp)) _
  refine h.frame (S := [rowThing b k, qThing t 1 qv n xs]) (R := R) (S' := [rowThing b (k' (.slice (some ⟨g, o, none⟩) (n + 1) c)), qThing t 1 (.slice (some ⟨g, o, none⟩) (n + 1) c) (n + 1) (xs ++ [x])]) (List.Perm.refl _) ?_ ?_ ?_ ?_
  · refine hkw.mono (fun i hi => .inl ?_)
    simp only [foots, List.flatMap_cons, List.flatMap_nil, List.append_nil, List.mem_append, rowThing, qThing, List.mem_cons, List.not_mem_nil, or_false] at hi ⊢
    exact hi
  · intro s hs
    simp only [List.mem_cons, List.not_mem_nil, or_false] at hs
    rcases hs with rfl | rfl
    · exact hrA.set j _ (hk _)
    · exact hQ.keep (fun i hi => Below.heap_setCell _ _ _ _ (by
        have e : g = i := by simpa [Value.ownBlock] using hi
        simp; omega))
  · intro i hi
    simp only [foots, List.flatMap_cons, List.flatMap_nil, List.append_nil, List.mem_append, rowThing, qThing, List.mem_cons, List.not_mem_nil, or_false, Option.mem_toList] at hi ⊢
    rcases hi with rfl | hi
    · exact .inl (.inl rfl)
    · have e : g = i := by simpa [Value.ownBlock] using hi
      subst e
      rcases hg with hg | hg
      · exact .inl (.inr hg)
      · have := hk1.size; exact .inr (by omega)
  · refine .cons (fun s hs => ?_) (.cons (by simp) .nil)
    simp only [List.mem_cons, List.not_mem_nil, or_false] at hs
    subst hs
    intro i hi
    simp only [rowThing, List.mem_singleton] at hi
    subst hi
    simp only [qThing, Option.mem_toList]
    intro e
    have e : g = i := by simpa [Value.ownBlock] using e
    omega
/-- One cell of the row's struct is written. -/
theorem set_row {w0 w : World} {b : Nat} {k k' : Bk} {R : List Thing} (h : At w0 w (rowThing b k :: R)) (j : Nat) (v : Value) (hk : k.cells.setIfInBounds j v = k'.cells) : At w0 (w.setCell ⟨b, j, none⟩ v) (rowThing b k' :: R) := by
  have hroot : BkAt w b k := h.get (t := rowThing b k) (by simp)
  refine h.frame (S := [rowThing b k]) (R := R) (S' := [rowThing b k']) (List.Perm.refl _) ?_ ?_ ?_ (.cons (by simp) .nil)
  · exact (Keeps.refl _ _).setCell (.inl (by simp [foots, rowThing])) _
  · intro s hs
    rw [List.mem_singleton.1 hs]
    exact hroot.set j v hk
  · exact fun i hi => .inl hi
theorem run_buildSlice_bs (w : World) (a : Option Addr) (n c : Nat) : (Instr.buildSlice 36 1 #[(0, .slice a n c)]).run Try.prog w = .ok (.slice (some ⟨w.heap.size, 0, none⟩) 1 1) (w.alloc (.cells #[.slice a n c] 29 (0, 0))) := by
  obtain ⟨i, hi, h1, h2, h3⟩ := info_parts info_bytes
  refine run_buildSlice w _ _ _ _ _ i (.slice none 0 0) Try.underlying36 hi h1 (by rw [h2]; omega) (by rw [h2]; omega) ?_
  rw [h2]
  kernel_rfl
end Go.Proofs.Ytbjffjplpnnhoaa

/-
  The Book of layer 4's law: leave; ends.
-/
namespace Go.Proofs.Ytbjffjplpnnhoaa
set_option linter.unusedVariables false
set_option linter.unusedSimpArgs false
open Go.RowKit

def calmAt (w : World) (b : Nat) : Nat := match w.cell? ⟨b, 5, none⟩ with | some (.slice _ n _) => n | _ => 0
theorem calmAt_of {w0 w : World} {b : Nat} {k : Bk} {gs : List Grp} {cs : List Idle} {M : List Thing} (h : At w0 w (bookL b k gs cs ++ M)) : calmAt w b = cs.length ∧ ∃ a c, k.cv = .slice a cs.length c ∧ cs.length ≤ c ∧ c ≤ 9223372036854775807 ∧ BkAt w b k := by
  have hroot : BkAt w b k := h.get (t := rowThing b k) (by simp [bookL_eq])
  have hq : QOwn w 29 1 k.cv cs.length (cs.map Idle.v) := h.get (t := qThing 29 1 k.cv cs.length (cs.map Idle.v)) (by simp [bookL_eq])
  obtain ⟨a, c, e, h1, h2⟩ := hq.form
  exact ⟨by unfold calmAt; rw [hroot.at.2.2.2.2.2.1, e], a, c, e, h1, h2, hroot⟩
/-- What a loop over the idle ones keeps. -/
def BookAt (w0 : World) (b : Nat) (k : Bk) (M : List Thing) (n : Nat) (w : World) : Prop := ∃ k' gs' cs', At w0 w (bookL b k' gs' cs' ++ M) ∧ BookOk gs' cs' ∧ k.rest' k' ∧ cs'.length = n
theorem leave_at {w0 w : World} {b : Nat} {dsv rsv gv cv wv : Value} {size next rest pages : Int} {gs : List Grp} {cs : List Idle} {M : List Thing} {av : Option Addr} {ln cap : Nat} {l : List UInt8}
    (h : At w0 w (bookL b ⟨dsv, rsv, gv, size, next, cv, wv, rest, pages⟩ gs cs ++ bytesThing (.slice av ln cap) l :: M)) (hok : BookOk gs cs) (hc : cs.length ≤ 64) (hl : l.length ≤ 16777216) :
    ∃ g1 o1 c1 wA, (Builtin.append_ #[36, 36] 36 #[cv, .slice (some ⟨w.heap.size, 0, none⟩) 1 1]).run Try.prog (w.alloc (.cells #[.slice av ln cap] 29 (0, 0))) = .ok (.slice (some ⟨g1, o1, none⟩) (cs.length + 1) c1) wA ∧
      wA.cell? ⟨b, 5, none⟩ = some cv ∧ wA.frozen? ⟨b, 5, none⟩ = false ∧ ∀ w1, w1 = wA.setCell ⟨b, 5, none⟩ (.slice (some ⟨g1, o1, none⟩) (cs.length + 1) c1) → w1.cell? ⟨b, 6, none⟩ = some wv ∧ w1.frozen? ⟨b, 6, none⟩ = false ∧ OwnB w1 (.slice av ln cap) l ∧
        ∀ (ua : Option Addr) (uc : Nat) (w2 : World), Keeps [] w1.drew w2 → OwnB w2 (.slice ua ln uc) l → (∀ k, (Value.slice ua ln uc).ownBlock = some k → w1.heap.size ≤ k) → w2.cell? ⟨b, 6, none⟩ = some wv ∧ w2.frozen? ⟨b, 6, none⟩ = false ∧
          (w2.alloc (.cells #[.slice ua ln uc] 29 (0, 0))).cell? ⟨b, 6, none⟩ = some wv ∧ (w2.alloc (.cells #[.slice ua ln uc] 29 (0, 0))).frozen? ⟨b, 6, none⟩ = false ∧
          ∃ g2 o2 c2 wB, (Builtin.append_ #[36, 36] 36 #[wv, .slice (some ⟨w2.heap.size, 0, none⟩) 1 1]).run Try.prog (w2.alloc (.cells #[.slice ua ln uc] 29 (0, 0))) = .ok (.slice (some ⟨g2, o2, none⟩) (cs.length + 1) c2) wB ∧ wB.cell? ⟨b, 6, none⟩ = some wv ∧ wB.frozen? ⟨b, 6, none⟩ = false ∧
            ∀ w3, w3 = wB.setCell ⟨b, 6, none⟩ (.slice (some ⟨g2, o2, none⟩) (cs.length + 1) c2) → w3.cell? ⟨b, 7, none⟩ = some (.int .i64 rest) ∧ w3.frozen? ⟨b, 7, none⟩ = false ∧ ∀ rest', BookAt w0 b ⟨dsv, rsv, gv, size, next, cv, wv, rest, pages⟩ M (cs.length + 1) (w3.setCell ⟨b, 7, none⟩ (.int .i64 rest')) := by
  have h1 := h.perm (M := rowThing b ⟨dsv, rsv, gv, size, next, cv, wv, rest, pages⟩ :: qThing 29 1 cv cs.length (cs.map Idle.v) :: (qThing 104 4 gv gs.length (gs.flatMap Grp.cells) :: qThing 29 1 wv cs.length (cs.map Idle.u) :: (bookR gs cs ++ bytesThing (.slice av ln cap) l :: M))) (perm_of fun t => by
    rw [bookL_eq]; simp only [List.cons_append, List.nil_append, tcnt_cons, tcnt_append]; omega)
  obtain ⟨g1, o1, c1, wA, hrA, hBA, hA⟩ := push_row h1 Try.underlying36 info_bytes rfl (x := .slice av ln cap) rfl (by omega) (by omega) 5 (fun v => ⟨dsv, rsv, gv, size, next, v, wv, rest, pages⟩) (fun _ => rfl) 36
  refine ⟨g1, o1, c1, wA, hrA, hBA.at.2.2.2.2.2.1, hBA.free 5, ?_⟩
  rintro w1 rfl
  have hB1 : BkAt _ b _ := hA.get (t := rowThing b ⟨dsv, rsv, gv, size, next, .slice (some ⟨g1, o1, none⟩) (cs.length + 1) c1, wv, rest, pages⟩) (by simp)
  refine ⟨hB1.at.2.2.2.2.2.2.1, hB1.free 6, hA.get (t := bytesThing (.slice av ln cap) l) (by simp), ?_⟩
  intro ua uc w2 hk2 hO2 hfr2
  have hA2 := (hA.keep (Keeps.refl _ _).drew).add hk2 (t := bytesThing (.slice ua ln uc) l) hO2 (fun i hi => .inr (hfr2 i (by simpa [bytesThing] using hi)))
  have hB2 : BkAt w2 b _ := hA2.get (t := rowThing b ⟨dsv, rsv, gv, size, next, .slice (some ⟨g1, o1, none⟩) (cs.length + 1) c1, wv, rest, pages⟩) (by simp)
  have hB2' : BkAt (w2.alloc (.cells #[.slice ua ln uc] 29 (0, 0))) b _ := hB2.keep (heap_old_at (lt_of_heap hB2))
  refine ⟨hB2.at.2.2.2.2.2.2.1, hB2.free 6, hB2'.at.2.2.2.2.2.2.1, hB2'.free 6, ?_⟩
  have h2 := hA2.perm (M := rowThing b ⟨dsv, rsv, gv, size, next, .slice (some ⟨g1, o1, none⟩) (cs.length + 1) c1, wv, rest, pages⟩ :: qThing 29 1 wv cs.length (cs.map Idle.u) :: (qThing 104 4 gv gs.length (gs.flatMap Grp.cells) :: qThing 29 1 (.slice (some ⟨g1, o1, none⟩) (cs.length + 1) c1) (cs.length + 1) (cs.map Idle.v ++ [.slice av ln cap]) :: bytesThing (.slice ua ln uc) l :: (bookR gs cs ++ bytesThing (.slice av ln cap) l :: M))) (perm_of fun t => by
    simp only [List.cons_append, List.nil_append, tcnt_cons, tcnt_append]; omega)
  obtain ⟨g2, o2, c2, wB, hrB, hBB, hB⟩ := push_row h2 Try.underlying36 info_bytes rfl (x := .slice ua ln uc) rfl (by omega) (by omega) 6 (fun v => ⟨dsv, rsv, gv, size, next, .slice (some ⟨g1, o1, none⟩) (cs.length + 1) c1, v, rest, pages⟩) (fun _ => rfl) 36
  refine ⟨g2, o2, c2, wB, hrB, hBB.at.2.2.2.2.2.2.1, hBB.free 6, ?_⟩
  rintro w3 rfl
  have hB3 : BkAt _ b _ := hB.get (t := rowThing b ⟨dsv, rsv, gv, size, next, .slice (some ⟨g1, o1, none⟩) (cs.length + 1) c1, .slice (some ⟨g2, o2, none⟩) (cs.length + 1) c2, rest, pages⟩) (by simp)
  refine ⟨hB3.at.2.2.2.2.2.2.2.1, hB3.free 7, fun rest' => ?_⟩
  have h3 := set_row hB (k' := ⟨dsv, rsv, gv, size, next, .slice (some ⟨g1, o1, none⟩) (cs.length + 1) c1, .slice (some ⟨g2, o2, none⟩) (cs.length + 1) c2, rest', pages⟩) 7 (.int .i64 rest') rfl
  refine ⟨⟨dsv, rsv, gv, size, next, .slice (some ⟨g1, o1, none⟩) (cs.length + 1) c1, .slice (some ⟨g2, o2, none⟩) (cs.length + 1) c2, rest', pages⟩, gs, cs ++ [⟨.slice av ln cap, .slice ua ln uc, l⟩], h3.perm (perm_of fun t => ?_), ⟨hok.gl, by simp; omega, fun d hd => ?_⟩, ⟨rfl, rfl, rfl⟩, by simp⟩
  · rw [bookL_eq]
    simp only [List.cons_append, List.nil_append, tcnt_cons, tcnt_append, tcnt_bookR, List.map_append, List.map_cons, List.map_nil, List.length_append, List.length_cons, List.length_nil, Nat.zero_add, List.flatMap_append, List.flatMap_cons, List.flatMap_nil, List.append_nil, Idle.things, tcnt_nil]
    omega
  · rcases List.mem_append.1 hd with hd | hd
    · exact hok.ll d hd
    · rw [List.mem_singleton.1 hd]; exact hl

set_option maxRecDepth 100000 in
set_option maxHeartbeats 2000000 in
theorem leave_thing {w0 w : World} {b : Nat} {k : Bk} {gs : List Grp} {cs : List Idle} {M : List Thing} {v : Value} {l : List UInt8} (h : At w0 w (bookL b k gs cs ++ bytesThing v l :: M)) (hok : BookOk gs cs) (hc : cs.length ≤ 64) (hl : l.length ≤ 16777216) :
    Calls Try.prog 58 #[.pointer (some ⟨b, 2, none⟩), v] w fun e w' => e = .returned (.tuple #[]) ∧ ∃ n, n ≤ 64 ∧ BookAt w0 b k M n w' := by
  obtain ⟨dsv, rsv, gv, size, next, cv, wv, rest, pages⟩ := k
  have hv : OwnB w v l := h.get (t := bytesThing v l) (by simp)
  obtain ⟨av, cap, rfl⟩ := owns_slice' hv
  obtain ⟨ln, hln⟩ : ∃ ln, ln = l.length := ⟨_, rfl⟩
  rw [← hln] at h hl ⊢
  obtain ⟨_, ac, cc, ecv, hcc1, hcc2, hroot⟩ := calmAt_of h
  simp only at ecv
  subst ecv
  obtain ⟨g1, o1, c1, wA, hrA, qA, fA, hA⟩ := leave_at h hok hc (by omega)
  obtain ⟨n, hn⟩ : ∃ n, n = cs.length := ⟨_, rfl⟩
  rw [← hn] at hrA hA hc qA hcc1 ⊢
  obtain ⟨K0, hK0⟩ : ∃ K0 : Bk, K0 = ⟨dsv, rsv, gv, size, next, .slice ac n cc, wv, rest, pages⟩ := ⟨_, rfl⟩
  rw [← hK0] at hA ⊢
  obtain ⟨w1, hw1⟩ : ∃ w1, w1 = wA.setCell ⟨b, 5, none⟩ (.slice (some ⟨g1, o1, none⟩) (n + 1) c1) := ⟨_, rfl⟩
  obtain ⟨d6, f6, hv1, hA2⟩ := hA w1 hw1
  have q5 := hroot.at.2.2.2.2.2.1
  simp only at q5
  rw [← hn] at q5
  have HAP := Lib.hid (run_builtin_append hrA)
  have HBS := Lib.hid (run_buildSlice_bs w av ln cap)
  have cC := lCopied_any (w := w1.drew) (l := l) ((ownB_bytes hv1).keeps ((Keeps.refl [] w1).drew) (by simp)) (by omega)
  rw [← hln] at cC
  have CC := Lib.hid cC
  have HA2 := Lib.hid hA2
  have HW1 := Lib.hid hw1
  clear cC hA hA2 hw1 hrA hroot hv hv1 hn hln h hK0
  go_enter Try.func58, Try.ntmps58
  go_upto_region 1 with (first | (refine wl_buildSlice rfl 36 1 #[(0, .tmp 9)] #[(0, .slice av ln cap)] rfl (by simp [Act.eval]) ?_; refine ⟨_, _, HBS.out, ?_⟩; try simp only [Act.put, List.setIfInBounds_toArray, List.set_cons_zero, List.set_cons_succ, List.getElem_toArray, List.getElem_cons_zero, List.getElem_cons_succ]) | (refine wl_builtin rfl .append #[.tmp 8, .tmp 10] #[36, 36] rfl ?_; simp only [List.map_toArray, List.map_cons, List.map_nil]; refine ⟨_, _, HAP.out, ?_⟩; try simp only [Act.put, List.setIfInBounds_toArray, List.set_cons_zero, List.set_cons_succ, List.getElem_toArray, List.getElem_cons_zero, List.getElem_cons_succ]))
  rw [← HW1.out]
  clear HAP HBS q5 fA qA
  refine rl_start (fun wy => wy.cell? ⟨b, 6, none⟩ = some wv ∧ wy.frozen? ⟨b, 6, none⟩ = false) 11 (by kernel_rfl) ?_ (fun hHeld => ?_)
  · exact ⟨d6, f6⟩
  refine' rl_take (i := 0) (v := _) rfl (by kernel_rfl) (by kernel_rfl) (by kernel_rfl) (by kernel_rfl) (fun _ _ _ h => h) (Or.inl ⟨by rfl, ?_⟩) (by assumption) ?_
  rotate_left 1
  · (intro w0 hSw; (try dsimp only at hSw); go_split_ands; go_simp; (try with_reducible rfl))
  try simp only [Act.put, List.setIfInBounds_toArray, List.set_cons_zero, List.set_cons_succ, List.getElem_toArray, List.getElem_cons_zero, List.getElem_cons_succ]
  refine' rl_take (i := 1) (v := _) rfl (by kernel_rfl) (by kernel_rfl) (by kernel_rfl) (by kernel_rfl) (fun _ _ _ h => h) (Or.inl ⟨by rfl, ?_⟩) (by assumption) ?_
  rotate_left 1
  · (intro w0 hSw; (try dsimp only at hSw); go_split_ands; go_simp; (try with_reducible rfl))
  try simp only [Act.put, List.setIfInBounds_toArray, List.set_cons_zero, List.set_cons_succ, List.getElem_toArray, List.getElem_cons_zero, List.getElem_cons_succ]
  refine' rl_take (i := 2) (v := _) rfl (by kernel_rfl) (by kernel_rfl) (by kernel_rfl) (by kernel_rfl) (fun _ _ _ h => h) (Or.inl ⟨by rfl, ?_⟩) (by assumption) ?_
  rotate_left 1
  · (intro w0 hSw; (try dsimp only at hSw); go_split_ands; go_simp; (try with_reducible rfl))
  try simp only [Act.put, List.setIfInBounds_toArray, List.set_cons_zero, List.set_cons_succ, List.getElem_toArray, List.getElem_cons_zero, List.getElem_cons_succ]
  refine' rl_take (i := 3) (v := _) rfl (by kernel_rfl) (by kernel_rfl) (by kernel_rfl) (by kernel_rfl) (fun _ _ _ h => h) (Or.inl ⟨by rfl, ?_⟩) (by assumption) ?_
  rotate_left 1
  · (intro w0 hSw; (try dsimp only at hSw); go_split_ands; go_simp; (try with_reducible rfl))
  try simp only [Act.put, List.setIfInBounds_toArray, List.set_cons_zero, List.set_cons_succ, List.getElem_toArray, List.getElem_cons_zero, List.getElem_cons_succ]
  refine' rl_take (i := 4) (v := _) rfl (by kernel_rfl) (by kernel_rfl) (by kernel_rfl) (by kernel_rfl) (fun _ _ _ h => h) (Or.inl ⟨by rfl, ?_⟩) (by assumption) ?_
  rotate_left 1
  · (intro w0 hSw; (try dsimp only at hSw); go_split_ands; go_simp; (try with_reducible rfl))
  try simp only [Act.put, List.setIfInBounds_toArray, List.set_cons_zero, List.set_cons_succ, List.getElem_toArray, List.getElem_cons_zero, List.getElem_cons_succ]
  refine' rl_take (i := 5) (v := _) rfl (by kernel_rfl) (by kernel_rfl) (by kernel_rfl) (by kernel_rfl) (fun _ _ _ h => h) (Or.inl ⟨by rfl, ?_⟩) (by assumption) ?_
  rotate_left 1
  · (intro w0 hSw; (try dsimp only at hSw); go_split_ands; go_simp; (try with_reducible rfl))
  try simp only [Act.put, List.setIfInBounds_toArray, List.set_cons_zero, List.set_cons_succ, List.getElem_toArray, List.getElem_cons_zero, List.getElem_cons_succ]
  refine rl_act (i := 6) (by kernel_rfl) rfl (fun K hK => ?_)
  go_simp
  refine CC.out.mono ?_
  rintro e w2 ⟨ua, uc, rfl, hO2, hfr2, hk2⟩
  obtain ⟨e6, x6, e6', x6', g2, o2, c2, wB, hrB, d6B, f6B, hB⟩ := HA2.out ua uc w2 hk2 hO2 hfr2
  have HAP := Lib.hid (run_builtin_append hrB)
  have HBS := Lib.hid (run_buildSlice_bs w2 ua ln uc)
  have HB := Lib.hid hB
  clear hrB hB hO2 hfr2 hk2 HA2 CC
  refine hK.out _ _ ?_ (fun hHeld => ?_)
  · exact ⟨e6, x6⟩
  clear hK K
  try simp only [Act.put, List.setIfInBounds_toArray, List.set_cons_zero, List.set_cons_succ, List.getElem_toArray, List.getElem_cons_zero, List.getElem_cons_succ]
  refine rl_act (i := 7) (by kernel_rfl) rfl (fun K hK => ?_)
  (refine st_buildSlice rfl 36 1 #[(0, .tmp 20)] #[(0, .slice ua ln uc)] rfl (by simp [Act.eval]) ?_; refine ⟨_, _, HBS.out, ?_⟩; try simp only [Act.put, List.setIfInBounds_toArray, List.set_cons_zero, List.set_cons_succ, List.getElem_toArray, List.getElem_cons_zero, List.getElem_cons_succ])
  refine hK.out _ _ ?_ (fun hHeld => ?_)
  · exact ⟨e6', x6'⟩
  clear hK K
  try simp only [Act.put, List.setIfInBounds_toArray, List.set_cons_zero, List.set_cons_succ, List.getElem_toArray, List.getElem_cons_zero, List.getElem_cons_succ]
  refine rl_act (i := 8) (by kernel_rfl) rfl (fun K hK => ?_)
  refine st_builtin rfl .append #[.tmp 18, .tmp 21] #[36, 36] rfl ?_
  simp only [List.map_toArray, List.map_cons, List.map_nil]
  refine ⟨_, _, HAP.out, ?_⟩
  try simp only [Act.put, List.setIfInBounds_toArray, List.set_cons_zero, List.set_cons_succ, List.getElem_toArray, List.getElem_cons_zero, List.getElem_cons_succ]
  refine hK.out _ _ ?_ (fun hHeld => ?_)
  · exact ⟨d6B, f6B⟩
  clear hK K
  try simp only [Act.put, List.setIfInBounds_toArray, List.set_cons_zero, List.set_cons_succ, List.getElem_toArray, List.getElem_cons_zero, List.getElem_cons_succ]
  refine rl_act (i := 9) (by kernel_rfl) rfl (fun K hK => ?_)
  go_simp
  refine hK.out _ _ ?_ (fun hHeld => ?_)
  · exact ⟨d6B, f6B⟩
  clear hK K
  try simp only [Act.put, List.setIfInBounds_toArray, List.set_cons_zero, List.set_cons_succ, List.getElem_toArray, List.getElem_cons_zero, List.getElem_cons_succ]
  refine' rl_take (i := 10) (v := _) rfl (by kernel_rfl) (by kernel_rfl) (by kernel_rfl) (by kernel_rfl) (fun _ _ _ h => h) (Or.inl ⟨by rfl, ?_⟩) (by assumption) ?_
  rotate_left 1
  · (intro w0 hSw; (try dsimp only at hSw); go_split_ands; go_simp; (try with_reducible rfl))
  try simp only [Act.put, List.setIfInBounds_toArray, List.set_cons_zero, List.set_cons_succ, List.getElem_toArray, List.getElem_cons_zero, List.getElem_cons_succ]
  refine rl_last (by kernel_rfl) (by kernel_rfl) rfl (fun K hK => ?_)
  go_simp
  refine hK.out _ _ ?_
  clear hK K
  try simp only [Act.put, List.setIfInBounds_toArray, List.set_cons_zero, List.set_cons_succ, List.getElem_toArray, List.getElem_cons_zero, List.getElem_cons_succ]
  clear hHeld d6 f6 e6 x6 e6' x6' HAP HBS
  obtain ⟨w3, hw3⟩ : ∃ w3, w3 = wB.setCell ⟨b, 6, none⟩ (.slice (some ⟨g2, o2, none⟩) (n + 1) c2) := ⟨_, rfl⟩
  obtain ⟨e7, x7, hAt⟩ := HB.out w3 hw3
  rw [← hw3]
  have HAT := Lib.hid hAt
  clear hw3 hAt HB d6B f6B
  go_wp2_with fail
  go_loopw [] (fun wr => ∃ m, m ≤ 65 ∧ BookAt w0 b K0 M m wr) (fun wr => calmAt wr b)
  case atStart => exact ⟨n + 1, by omega, HAT.out _⟩
  case round =>
    obtain ⟨m, hm, k2, gs2, cs2, hA, hok2, hr2, rfl⟩ := hrel
    obtain ⟨hcm, a2, c2, e2, hc1, hc2', hB⟩ := calmAt_of hA
    have q5 := hB.at.2.2.2.2.2.1
    have q7 := hB.at.2.2.2.2.2.2.2.1
    rw [e2] at q5
    obtain ⟨m, hmm⟩ : ∃ m, m = cs2.length := ⟨_, rfl⟩
    rw [← hmm] at hcm hm q5 hc1
    obtain ⟨re, hre⟩ : ∃ re, re = k2.rest := ⟨_, rfl⟩
    rw [← hre] at q7
    have HMM := Lib.hid hmm
    have HCM := Lib.hid hcm
    have HA := Lib.hid hA
    have HOK2 := Lib.hid hok2
    have HR2 := Lib.hid hr2
    by_cases hC : 1 < m ∧ (64 < m ∨ 1000000 < re)
    · have g1 : (1 : Int) < (m : Int) := by omega
      cases cs2 with
      | nil => simp at hmm; omega
      | cons c cs3 =>
        have CW := Lib.hid (wakes_thing hA hok2)
        have hC2 : (64 : Int) < (m : Int) ∨ (¬ (64 : Int) < (m : Int) ∧ 1000000 < re) := by omega
        clear hC hA hok2 hr2 hmm hcm hB hre e2 HAT
        rcases hC2 with g2 | ⟨g2, g3⟩
        all_goals
          go_wp2_with (go_at_call 55; refine CW.out.mono ?_; rintro e w' ⟨rfl, k3, gs3, hA3, hok3, hr3⟩; have HA3 := Lib.hid hA3; have HOK3 := Lib.hid hok3; have HR3 := Lib.hid hr3; clear hA3 hok3 hr3)
          go_roundw
          case rel => exact ⟨cs3.length, by have := HMM.out; simp at this; omega, k3, gs3, cs3, HA3.out, HOK3.out, HR2.out.trans HR3.out, rfl⟩
          case measure =>
            rw [HCM.out, (calmAt_of HA3.out).1]
            have := HMM.out
            simp at this
            omega
    · have hC2 : ¬ (1 : Int) < (m : Int) ∨ ((1 : Int) < (m : Int) ∧ ¬ (64 : Int) < (m : Int) ∧ ¬ 1000000 < re) := by omega
      have hm4 : m ≤ 64 := by omega
      clear hC hA hok2 hr2 hmm hcm hB hre e2 HAT
      rcases hC2 with g1 | ⟨g1, g2, g3⟩
      all_goals
        go_wp2_with fail
        go_end0
        exact ⟨rfl, m, hm4, k2, gs2, cs2, HA.out, HOK2.out, HR2.out, HMM.out.symm⟩
/-- ends: all that is idle is looked at and marked; everything stands. -/
theorem ends_thing {w0 w : World} {b : Nat} {k : Bk} {gs : List Grp} {cs : List Idle} {M : List Thing} (h : At w0 w (bookL b k gs cs ++ M)) (hok : BookOk gs cs) :
    Calls Try.prog 34 #[.pointer (some ⟨b, 2, none⟩)] w fun e w' => e = .returned (.bool true) ∧ At w0 w' [] := by
  have CS := Lib.hid (stands_thing h hok)
  have HA := Lib.hid h
  have HOK := Lib.hid hok
  clear h hok
  go_enter Try.func34, Try.ntmps34
  go_wp2_with (go_at_call 33; refine CS.out.mono ?_; rintro e w' ⟨rfl, hk⟩; have HK := Lib.hid hk; clear hk)
  go_loopw [3] (fun okv wr => okv = .bool true ∧ ∃ m, BookAt w0 b k M m wr) (fun _ wr => calmAt wr b)
  case atStart => exact ⟨rfl, cs.length, k, gs, cs, HA.out.keep HK.out, HOK.out, Bk.rest'.refl k, rfl⟩
  case round =>
    obtain ⟨rfl, m, k2, gs2, cs2, hA, hok2, hr2, rfl⟩ := hrel
    obtain ⟨hcm, a2, c2, e2, hc1, hc2', hB⟩ := calmAt_of hA
    have q5 := hB.at.2.2.2.2.2.1
    rw [e2] at q5
    obtain ⟨m, hmm⟩ : ∃ m, m = cs2.length := ⟨_, rfl⟩
    rw [← hmm] at hcm q5 hc1
    have HMM := Lib.hid hmm
    have HCM := Lib.hid hcm
    have HA := Lib.hid hA
    have HOK2 := Lib.hid hok2
    have HR2 := Lib.hid hr2
    by_cases hC : 0 < m
    · have g1 : (0 : Int) < (m : Int) := by omega
      cases cs2 with
      | nil => simp at hmm; omega
      | cons c cs3 =>
        have CW := Lib.hid (wakes_thing hA hok2)
        clear hA hok2 hr2 hmm hcm hB e2
        go_upto_region 4 with (go_at_call 55; refine CW.out.mono ?_; rintro e w' ⟨rfl, k3, gs3, hA3, hok3, hr3⟩; have HA3 := Lib.hid hA3; have HOK3 := Lib.hid hok3; have HR3 := Lib.hid hr3; clear hA3 hok3 hr3)
        have CS2 := Lib.hid (stands_thing HA3.out HOK3.out)
        go_wp2_with (go_at_call 33; refine CS2.out.mono ?_; rintro e w2 ⟨rfl, hk⟩; have HK2 := Lib.hid hk; clear hk)
        go_roundw
        case rel => exact ⟨rfl, cs3.length, k3, gs3, cs3, HA3.out.keep HK2.out, HOK3.out, HR2.out.trans HR3.out, rfl⟩
        case measure =>
          rw [HCM.out, (calmAt_of (HA3.out.keep HK2.out)).1]
          have := HMM.out
          simp at this
          omega
    · have g1 : ¬ (0 : Int) < (m : Int) := by omega
      clear hA hok2 hr2 hmm hcm hB e2
      go_wp2_with fail
      go_ret
      exact ⟨rfl, HA.out.sub (List.nil_sublist _)⟩
end Go.Proofs.Ytbjffjplpnnhoaa
