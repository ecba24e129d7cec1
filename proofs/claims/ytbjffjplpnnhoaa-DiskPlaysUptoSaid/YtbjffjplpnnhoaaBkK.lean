/-
  The row of disks of layer 4's law: what it holds; joins.
-/
import Derived.Test.YtbjffjplpnnhoaaBkH
namespace Go.Proofs.Ytbjffjplpnnhoaa
set_option linter.unusedVariables false
set_option linter.unusedSimpArgs false
open Go.RowKit

/-- A disk of the row, and the document's. -/
structure En where
  bd : Nat
  d : D
  FD : List Nat
  br : Nat
  r : R
  FR : List Nat
def En.things (e : En) : List Thing := [diskThing e.bd e.d e.FD, refThing e.br e.r e.FR]
def En.pd (e : En) : Value := .pointer (some ⟨e.bd, 0, none⟩)
def En.pr (e : En) : Value := .pointer (some ⟨e.br, 0, none⟩)
def rowL (b : Nat) (k : Bk) (gs : List Grp) (cs : List Idle) (es : List En) (M : List Thing) : List Thing :=
  bookL b k gs cs ++ (qThing 24 1 k.dsv es.length (es.map En.pd) :: qThing 90 1 k.rsv es.length (es.map En.pr) :: (es.flatMap En.things ++ M))
theorem info_diskP : (Try.prog.info? 24).map (fun i => (i.zero, i.size, i.bytes)) = some (some (.pointer none), 1, 8) := by kernel_rfl
theorem info_refP : (Try.prog.info? 90).map (fun i => (i.zero, i.size, i.bytes)) = some (some (.pointer none), 1, 8) := by kernel_rfl
theorem run_buildSlice_dp (w : World) (a : Option Addr) : (Instr.buildSlice 71 1 #[(0, .pointer a)]).run Try.prog w = .ok (.slice (some ⟨w.heap.size, 0, none⟩) 1 1) (w.alloc (.cells #[.pointer a] 24 (0, 0))) := by
  obtain ⟨i, hi, h1, h2, h3⟩ := info_parts info_diskP
  refine run_buildSlice w _ _ _ _ _ i (.pointer none) Try.underlying71 hi h1 (by rw [h2]; omega) (by rw [h2]; omega) ?_
  rw [h2]
  kernel_rfl
theorem run_buildSlice_rp (w : World) (a : Option Addr) : (Instr.buildSlice 72 1 #[(0, .pointer a)]).run Try.prog w = .ok (.slice (some ⟨w.heap.size, 0, none⟩) 1 1) (w.alloc (.cells #[.pointer a] 90 (0, 0))) := by
  obtain ⟨i, hi, h1, h2, h3⟩ := info_parts info_refP
  refine run_buildSlice w _ _ _ _ _ i (.pointer none) Try.underlying72 hi h1 (by rw [h2]; omega) (by rw [h2]; omega) ?_
  rw [h2]
  kernel_rfl
theorem joins_at {w0 w : World} {b : Nat} {dsv rsv gv cv wv : Value} {size next rest pages : Int} {gs : List Grp} {cs : List Idle} {es : List En} {M : List Thing} {e : En}
    (h : At w0 w (rowL b ⟨dsv, rsv, gv, size, next, cv, wv, rest, pages⟩ gs cs es (e.things ++ M))) (hn : es.length ≤ 4294967296) :
    ∃ g1 o1 c1 wA, (Builtin.append_ #[71, 71] 71 #[dsv, .slice (some ⟨w.heap.size, 0, none⟩) 1 1]).run Try.prog (w.alloc (.cells #[e.pd] 24 (0, 0))) = .ok (.slice (some ⟨g1, o1, none⟩) (es.length + 1) c1) wA ∧
      wA.cell? ⟨b, 0, none⟩ = some dsv ∧ wA.frozen? ⟨b, 0, none⟩ = false ∧ ∀ w1, w1 = wA.setCell ⟨b, 0, none⟩ (.slice (some ⟨g1, o1, none⟩) (es.length + 1) c1) → w1.cell? ⟨b, 1, none⟩ = some rsv ∧
        ∃ g2 o2 c2 wB, (Builtin.append_ #[72, 72] 72 #[rsv, .slice (some ⟨w1.heap.size, 0, none⟩) 1 1]).run Try.prog (w1.alloc (.cells #[e.pr] 90 (0, 0))) = .ok (.slice (some ⟨g2, o2, none⟩) (es.length + 1) c2) wB ∧ wB.cell? ⟨b, 1, none⟩ = some rsv ∧ wB.frozen? ⟨b, 1, none⟩ = false ∧
          ∀ w2, w2 = wB.setCell ⟨b, 1, none⟩ (.slice (some ⟨g2, o2, none⟩) (es.length + 1) c2) → w2.cell? ⟨b, 9, none⟩ = some (.int .i64 pages) ∧ w2.frozen? ⟨b, 9, none⟩ = false ∧ RefAt w2 e.br e.r e.FR ∧
            ∀ w3, Keeps [] w2 w3 → w3.cell? ⟨b, 9, none⟩ = some (.int .i64 pages) ∧ w3.frozen? ⟨b, 9, none⟩ = false ∧ ∀ pages', ∃ k', At w0 (w3.setCell ⟨b, 9, none⟩ (.int .i64 pages')) (rowL b k' gs cs (es ++ [e]) M) := by
  have h1 := h.perm (M := rowThing b ⟨dsv, rsv, gv, size, next, cv, wv, rest, pages⟩ :: qThing 24 1 dsv es.length (es.map En.pd) :: (qThing 104 4 gv gs.length (gs.flatMap Grp.cells) :: qThing 29 1 cv cs.length (cs.map Idle.v) :: qThing 29 1 wv cs.length (cs.map Idle.u) :: (bookR gs cs ++ qThing 90 1 rsv es.length (es.map En.pr) :: (es.flatMap En.things ++ (e.things ++ M))))) (perm_of fun t => by
    rw [rowL, bookL_eq]; simp only [List.cons_append, List.nil_append, tcnt_cons, tcnt_append]; omega)
  obtain ⟨g1, o1, c1, wA, hrA, hBA, hA⟩ := push_row h1 Try.underlying71 info_diskP rfl (x := e.pd) rfl (by omega) (by omega) 0 (fun v => ⟨v, rsv, gv, size, next, cv, wv, rest, pages⟩) (fun _ => rfl) 71
  refine ⟨g1, o1, c1, wA, hrA, hBA.at.1, hBA.free 0, ?_⟩
  rintro w1 rfl
  have hB1 : BkAt _ b _ := hA.get (t := rowThing b ⟨.slice (some ⟨g1, o1, none⟩) (es.length + 1) c1, rsv, gv, size, next, cv, wv, rest, pages⟩) (by simp)
  refine ⟨hB1.at.2.1, ?_⟩
  have h2 := hA.perm (M := rowThing b ⟨.slice (some ⟨g1, o1, none⟩) (es.length + 1) c1, rsv, gv, size, next, cv, wv, rest, pages⟩ :: qThing 90 1 rsv es.length (es.map En.pr) :: (qThing 104 4 gv gs.length (gs.flatMap Grp.cells) :: qThing 29 1 cv cs.length (cs.map Idle.v) :: qThing 29 1 wv cs.length (cs.map Idle.u) :: (bookR gs cs ++ qThing 24 1 (.slice (some ⟨g1, o1, none⟩) (es.length + 1) c1) (es.length + 1) (es.map En.pd ++ [e.pd]) :: (es.flatMap En.things ++ (e.things ++ M))))) (perm_of fun t => by
    simp only [List.cons_append, List.nil_append, tcnt_cons, tcnt_append]; omega)
  obtain ⟨g2, o2, c2, wB, hrB, hBB, hB⟩ := push_row h2 Try.underlying72 info_refP rfl (x := e.pr) rfl (by omega) (by omega) 1 (fun v => ⟨.slice (some ⟨g1, o1, none⟩) (es.length + 1) c1, v, gv, size, next, cv, wv, rest, pages⟩) (fun _ => rfl) 72
  refine ⟨g2, o2, c2, wB, hrB, hBB.at.2.1, hBB.free 1, ?_⟩
  rintro w2 rfl
  have hB2 : BkAt _ b _ := hB.get (t := rowThing b ⟨.slice (some ⟨g1, o1, none⟩) (es.length + 1) c1, .slice (some ⟨g2, o2, none⟩) (es.length + 1) c2, gv, size, next, cv, wv, rest, pages⟩) (by simp)
  refine ⟨hB2.at.2.2.2.2.2.2.2.2.2, hB2.free 9, hB.get (t := refThing e.br e.r e.FR) (by simp [En.things]), ?_⟩
  intro w3 hk3
  have hC := hB.keep hk3
  have hB3 : BkAt _ b _ := hC.get (t := rowThing b ⟨.slice (some ⟨g1, o1, none⟩) (es.length + 1) c1, .slice (some ⟨g2, o2, none⟩) (es.length + 1) c2, gv, size, next, cv, wv, rest, pages⟩) (by simp)
  refine ⟨hB3.at.2.2.2.2.2.2.2.2.2, hB3.free 9, fun pages' => ?_⟩
  have h3 := set_row hC (k' := ⟨.slice (some ⟨g1, o1, none⟩) (es.length + 1) c1, .slice (some ⟨g2, o2, none⟩) (es.length + 1) c2, gv, size, next, cv, wv, rest, pages'⟩) 9 (.int .i64 pages') rfl
  refine ⟨⟨.slice (some ⟨g1, o1, none⟩) (es.length + 1) c1, .slice (some ⟨g2, o2, none⟩) (es.length + 1) c2, gv, size, next, cv, wv, rest, pages'⟩, h3.perm (perm_of fun t => ?_)⟩
  rw [rowL, bookL_eq]
  simp only [List.cons_append, List.nil_append, tcnt_cons, tcnt_append, List.map_append, List.map_cons, List.map_nil, List.length_append, List.length_cons, List.length_nil, Nat.zero_add, List.flatMap_append, List.flatMap_cons, List.flatMap_nil, List.append_nil]
  omega

theorem joins_no {w : World} (b c : Int) (b' : Nat) (hc : c ≤ 9223372036854775807) :
    Calls Try.prog 40 #[.pointer (some ⟨b', 0, none⟩), .pointer none, .int .i64 c, .pointer none, .int .i64 c] w fun e w' => e = .returned (.bool true) ∧ w = w' := by
  have t1 : (c != c) = false := by simp
  go_enter Try.func40, Try.ntmps40
  go_wp2_with fail
  go_ret
  exact ⟨rfl, rfl⟩
set_option maxRecDepth 100000 in
set_option maxHeartbeats 2000000 in
theorem joins_yes {w0 w : World} {b : Nat} {k : Bk} {gs : List Grp} {cs : List Idle} {es : List En} {M : List Thing} {e : En}
    (h : At w0 w (rowL b k gs cs es (e.things ++ M))) (hn : es.length ≤ 4294967296) (hl : Like e.d e.r) (hm : e.d.n ≤ 4096) (hq : e.r.log.length < 4294967296) :
    Calls Try.prog 40 #[.pointer (some ⟨b, 0, none⟩), e.pd, .int .i64 0, e.pr, .int .i64 0] w fun x w' => x = .returned (.bool true) ∧ ∃ k', At w0 w' (rowL b k' gs cs (es ++ [e]) M) := by
  obtain ⟨dsv, rsv, gv, size, next, cv, wv, rest, pages⟩ := k
  have hroot : BkAt w b ⟨dsv, rsv, gv, size, next, cv, wv, rest, pages⟩ := h.get (t := rowThing b ⟨dsv, rsv, gv, size, next, cv, wv, rest, pages⟩) (by simp [rowL, bookL_eq])
  have q0 := hroot.at.1
  simp only at q0
  obtain ⟨g1, o1, c1, wA, hrA, qA, fA, hA⟩ := joins_at h hn
  obtain ⟨w1, hw1⟩ : ∃ w1, w1 = wA.setCell ⟨b, 0, none⟩ (.slice (some ⟨g1, o1, none⟩) (es.length + 1) c1) := ⟨_, rfl⟩
  obtain ⟨q1, g2, o2, c2, wB, hrB, qB, fB, hB⟩ := hA w1 hw1
  obtain ⟨w2, hw2⟩ : ∃ w2, w2 = wB.setCell ⟨b, 1, none⟩ (.slice (some ⟨g2, o2, none⟩) (es.length + 1) c2) := ⟨_, rfl⟩
  obtain ⟨q2, f2, hR2, hC⟩ := hB w2 hw2
  obtain ⟨n, hn'⟩ : ∃ n, n = es.length := ⟨_, rfl⟩
  rw [← hn'] at hrA hrB hw1 hw2
  have hR2' : RefAt w2.drew e.br e.r e.FR := hR2.keep (fun _ _ => rfl)
  have CI := Lib.hid (rfIm_any hR2' hl hm hq)
  obtain ⟨L, hL⟩ : ∃ L, L = e.d.img := ⟨_, rfl⟩
  rw [← hL] at CI
  have hLl : L.length ≤ 1048576 := by
    have := hl.al.img
    have h1 := (h.get (t := diskThing e.bd e.d e.FD) (by simp [rowL, En.things]) : DiskAt w e.bd e.d e.FD).ok
    rw [hL, h1.2.2.1]
    omega
  have HAP1 := Lib.hid (run_builtin_append hrA)
  have HAP2 := Lib.hid (run_builtin_append hrB)
  have HBS1 := Lib.hid (run_buildSlice_dp w (some ⟨e.bd, 0, none⟩))
  have HBS2 := Lib.hid (run_buildSlice_rp w1 (some ⟨e.br, 0, none⟩))
  have HW1 := Lib.hid hw1
  have HW2 := Lib.hid hw2
  have HC := Lib.hid hC
  obtain ⟨bd, hbd⟩ : ∃ x, x = e.bd := ⟨_, rfl⟩
  obtain ⟨br, hbr⟩ : ∃ x, x = e.br := ⟨_, rfl⟩
  rw [show e.pd = .pointer (some ⟨e.bd, 0, none⟩) from rfl, show e.pr = .pointer (some ⟨e.br, 0, none⟩) from rfl, ← hbd, ← hbr]
  rw [show e.pd = .pointer (some ⟨e.bd, 0, none⟩) from rfl, ← hbd] at HAP1
  rw [show e.pr = .pointer (some ⟨e.br, 0, none⟩) from rfl, ← hbr] at HAP2
  rw [← hbd] at HBS1
  rw [← hbr] at HBS2 CI
  clear hrA hrB hw1 hw2 hA hB hC hR2 hR2' hL hl h hroot hn' hbd hbr hm hq hn
  go_enter Try.func40, Try.ntmps40
  go_upto_region 5 with (first | (refine wl_buildSlice rfl 71 1 #[(0, .tmp 28)] #[(0, .pointer (some ⟨bd, 0, none⟩))] rfl (by simp [Act.eval]) ?_; refine ⟨_, _, HBS1.out, ?_⟩; try simp only [Act.put, List.setIfInBounds_toArray, List.set_cons_zero, List.set_cons_succ, List.getElem_toArray, List.getElem_cons_zero, List.getElem_cons_succ]) | (refine wl_builtin rfl .append #[.tmp 27, .tmp 29] #[71, 71] rfl ?_; simp only [List.map_toArray, List.map_cons, List.map_nil]; refine ⟨_, _, HAP1.out, ?_⟩; try simp only [Act.put, List.setIfInBounds_toArray, List.set_cons_zero, List.set_cons_succ, List.getElem_toArray, List.getElem_cons_zero, List.getElem_cons_succ]))
  rw [← HW1.out]
  go_upto_region 6 with (first | (refine wl_buildSlice rfl 72 1 #[(0, .tmp 38)] #[(0, .pointer (some ⟨br, 0, none⟩))] rfl (by simp [Act.eval]) ?_; refine ⟨_, _, HBS2.out, ?_⟩; try simp only [Act.put, List.setIfInBounds_toArray, List.set_cons_zero, List.set_cons_succ, List.getElem_toArray, List.getElem_cons_zero, List.getElem_cons_succ]) | (refine wl_builtin rfl .append #[.tmp 37, .tmp 39] #[72, 72] rfl ?_; simp only [List.map_toArray, List.map_cons, List.map_nil]; refine ⟨_, _, HAP2.out, ?_⟩; try simp only [Act.put, List.setIfInBounds_toArray, List.set_cons_zero, List.set_cons_succ, List.getElem_toArray, List.getElem_cons_zero, List.getElem_cons_succ]))
  rw [← HW2.out]
  clear q0 q1 qA qB fA fB HAP1 HAP2 HBS1 HBS2
  refine rl_start (fun wy => wy.cell? ⟨b, 9, none⟩ = some (.int .i64 pages) ∧ wy.frozen? ⟨b, 9, none⟩ = false) 12 (by kernel_rfl) ?_ (fun hHeld => ?_)
  · exact ⟨q2, f2⟩
  refine' rl_take (i := 0) (v := _) rfl (by kernel_rfl) (by kernel_rfl) (by kernel_rfl) (by kernel_rfl) (fun _ _ _ h => h) (Or.inl ⟨by rfl, ?_⟩) (by assumption) ?_
  rotate_left 1
  · (intro w0 hSw; (try dsimp only at hSw); go_split_ands; go_simp; (try with_reducible rfl))
  try simp only [Act.put, List.setIfInBounds_toArray, List.set_cons_zero, List.set_cons_succ, List.getElem_toArray, List.getElem_cons_zero, List.getElem_cons_succ]
  refine' rl_take (i := 1) (v := _) rfl (by kernel_rfl) (by kernel_rfl) (by kernel_rfl) (by kernel_rfl) (fun _ _ _ h => h) (Or.inl ⟨by rfl, ?_⟩) (by assumption) ?_
  rotate_left 1
  · (intro w0 hSw; (try dsimp only at hSw); go_split_ands; go_simp; (try with_reducible rfl))
  try simp only [Act.put, List.setIfInBounds_toArray, List.set_cons_zero, List.set_cons_succ, List.getElem_toArray, List.getElem_cons_zero, List.getElem_cons_succ]
  refine' rl_take (i := 2) (v := _) rfl (by kernel_rfl) (by kernel_rfl) (by kernel_rfl) (by kernel_rfl) (fun _ _ _ h => h) (Or.inl ⟨by rfl, ?_⟩) (by assumption) ?_
  rotate_left 1
  · (intro w0 hSw; (try dsimp only at hSw); go_split_ands; go_simp; (try with_reducible rfl))
  try simp only [Act.put, List.setIfInBounds_toArray, List.set_cons_zero, List.set_cons_succ, List.getElem_toArray, List.getElem_cons_zero, List.getElem_cons_succ]
  refine' rl_take (i := 3) (v := _) rfl (by kernel_rfl) (by kernel_rfl) (by kernel_rfl) (by kernel_rfl) (fun _ _ _ h => h) (Or.inl ⟨by rfl, ?_⟩) (by assumption) ?_
  rotate_left 1
  · (intro w0 hSw; (try dsimp only at hSw); go_split_ands; go_simp; (try with_reducible rfl))
  try simp only [Act.put, List.setIfInBounds_toArray, List.set_cons_zero, List.set_cons_succ, List.getElem_toArray, List.getElem_cons_zero, List.getElem_cons_succ]
  refine' rl_take (i := 4) (v := _) rfl (by kernel_rfl) (by kernel_rfl) (by kernel_rfl) (by kernel_rfl) (fun _ _ _ h => h) (Or.inl ⟨by rfl, ?_⟩) (by assumption) ?_
  rotate_left 1
  · (intro w0 hSw; (try dsimp only at hSw); go_split_ands; go_simp; (try with_reducible rfl))
  try simp only [Act.put, List.setIfInBounds_toArray, List.set_cons_zero, List.set_cons_succ, List.getElem_toArray, List.getElem_cons_zero, List.getElem_cons_succ]
  refine' rl_take (i := 5) (v := _) rfl (by kernel_rfl) (by kernel_rfl) (by kernel_rfl) (by kernel_rfl) (fun _ _ _ h => h) (Or.inl ⟨by rfl, ?_⟩) (by assumption) ?_
  rotate_left 1
  · (intro w0 hSw; (try dsimp only at hSw); go_split_ands; go_simp; (try with_reducible rfl))
  try simp only [Act.put, List.setIfInBounds_toArray, List.set_cons_zero, List.set_cons_succ, List.getElem_toArray, List.getElem_cons_zero, List.getElem_cons_succ]
  refine rl_act (i := 6) (by kernel_rfl) rfl (fun K hK => ?_)
  go_simp
  refine CI.out.mono ?_
  rintro x w3 ⟨v, rfl, hO3, hfr3, hk3⟩
  obtain ⟨av, cap, rfl⟩ := owns_slice' hO3
  have hk3' : Keeps [] w2 w3 := ((Keeps.refl _ w2).drew).trans (G := []) hk3 (by simp)
  obtain ⟨q3, f3, hD⟩ := HC.out w3 hk3'
  have HD := Lib.hid hD
  obtain ⟨ll, hll⟩ : ∃ ll, ll = L.length := ⟨_, rfl⟩
  rw [← hll] at hLl ⊢
  clear hO3 hfr3 hk3 hk3' hD HC CI hll
  refine hK.out _ _ ?_ (fun hHeld => ?_)
  · exact ⟨q3, f3⟩
  clear hK K
  try simp only [Act.put, List.setIfInBounds_toArray, List.set_cons_zero, List.set_cons_succ, List.getElem_toArray, List.getElem_cons_zero, List.getElem_cons_succ]
  refine' rl_take (i := 7) (v := _) rfl (by kernel_rfl) (by kernel_rfl) (by kernel_rfl) (by kernel_rfl) (fun _ _ _ h => h) (Or.inl ⟨by rfl, ?_⟩) (by assumption) ?_
  rotate_left 1
  · (intro w0 hSw; (try dsimp only at hSw); go_split_ands; go_simp; (try with_reducible rfl))
  try simp only [Act.put, List.setIfInBounds_toArray, List.set_cons_zero, List.set_cons_succ, List.getElem_toArray, List.getElem_cons_zero, List.getElem_cons_succ]
  refine' rl_take (i := 8) (v := _) rfl (by kernel_rfl) (by kernel_rfl) (by kernel_rfl) (by kernel_rfl) (fun _ _ _ h => h) (Or.inl ⟨by rfl, ?_⟩) (by assumption) ?_
  rotate_left 1
  · (intro w0 hSw; (try dsimp only at hSw); go_split_ands; go_simp; (try with_reducible rfl))
  try simp only [Act.put, List.setIfInBounds_toArray, List.set_cons_zero, List.set_cons_succ, List.getElem_toArray, List.getElem_cons_zero, List.getElem_cons_succ]
  refine' rl_take (i := 9) (v := _) rfl (by kernel_rfl) (by kernel_rfl) (by kernel_rfl) (by kernel_rfl) (fun _ _ _ h => h) (Or.inl ⟨by rfl, ?_⟩) (by assumption) ?_
  rotate_left 1
  · (intro w0 hSw; (try dsimp only at hSw); go_split_ands; go_simp; (try with_reducible rfl))
  try simp only [Act.put, List.setIfInBounds_toArray, List.set_cons_zero, List.set_cons_succ, List.getElem_toArray, List.getElem_cons_zero, List.getElem_cons_succ]
  refine rl_act (i := 10) (by kernel_rfl) rfl (fun K hK => ?_)
  go_simp
  refine hK.out _ _ ?_ (fun hHeld => ?_)
  · exact ⟨q3, f3⟩
  clear hK K
  try simp only [Act.put, List.setIfInBounds_toArray, List.set_cons_zero, List.set_cons_succ, List.getElem_toArray, List.getElem_cons_zero, List.getElem_cons_succ]
  refine' rl_take (i := 11) (v := _) rfl (by kernel_rfl) (by kernel_rfl) (by kernel_rfl) (by kernel_rfl) (fun _ _ _ h => h) (Or.inl ⟨by rfl, ?_⟩) (by assumption) ?_
  rotate_left 1
  · (intro w0 hSw; (try dsimp only at hSw); go_split_ands; go_simp; (try with_reducible rfl))
  try simp only [Act.put, List.setIfInBounds_toArray, List.set_cons_zero, List.set_cons_succ, List.getElem_toArray, List.getElem_cons_zero, List.getElem_cons_succ]
  refine rl_last (by kernel_rfl) (by kernel_rfl) rfl (fun K hK => ?_)
  go_simp
  refine hK.out _ _ ?_
  clear hK K
  try simp only [Act.put, List.setIfInBounds_toArray, List.set_cons_zero, List.set_cons_succ, List.getElem_toArray, List.getElem_cons_zero, List.getElem_cons_succ]
  clear hHeld q2 f2 q3 f3
  go_wp2_with fail
  go_ret
  exact ⟨rfl, HD.out _⟩
end Go.Proofs.Ytbjffjplpnnhoaa
