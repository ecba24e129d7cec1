/-
  The walk of DiskPlays (layer 4's law).
-/
import Derived.Test.YtbjffjplpnnhoaaBkV
import Derived.Test.YtbjffjplpnnhoaaOpenOps
namespace Go.Proofs.Ytbjffjplpnnhoaa
set_option linter.unusedVariables false
set_option linter.unusedSimpArgs false
open Go.RowKit

theorem plays_any {w0 w : World} {b L : Nat} {es : List En} {o : OpV} (h : RowAt w0 b es [] w) (ho : o.ok w0) (hE : ∀ e ∈ es, EnOk e L) (hL : L ≤ 4294967000) (h0 : 0 < es.length) (hN : es.length ≤ 4294967290) :
    Calls Try.prog 32 #[.pointer (some ⟨b, 0, none⟩), .agg o.cells] w (PlayPost w0 b es.length L) := by
  by_cases h1 : o.kind = 1
  · exact plays_make h ho hE hL h0 hN (.inl h1)
  by_cases h2 : o.kind = 2
  · exact plays_make h ho hE hL h0 hN (.inr (.inl h2))
  by_cases h3 : o.kind = 3
  · exact plays_make h ho hE hL h0 hN (.inr (.inr h3))
  by_cases h4 : o.kind = 4
  · exact plays_read h ho hE hL h0 hN h4
  by_cases h10 : o.kind = 10
  · exact plays_image h ho hE hL h0 hN h10
  by_cases h11 : o.kind = 11
  · exact plays_power h ho hE hL h0 hN h11
  by_cases h12 : o.kind = 12
  · exact plays_epoch h ho hE hL h0 hN h12
  by_cases h14 : o.kind = 14
  · exact plays_counts h ho hE hL h0 hN h14
  by_cases h15 : o.kind = 15
  · exact plays_pages h ho hE hL h0 hN h15
  exact plays_act h ho hE hL h0 hN ⟨h1, h2, h3, h4, h10, h11, h12, h14, h15⟩
def zRow : Array Value := #[.slice none 0 0, .slice none 0 0, .slice none 0 0, .int .i64 0, .int .i64 0, .slice none 0 0, .slice none 0 0, .int .i64 0, .bool false, .int .i64 0]
theorem built_row : Try.prog.built 77 [] = some #[.slice none 0 0, .slice none 0 0, .slice none 0 0, .int .i64 0, .int .i64 0, .slice none 0 0, .slice none 0 0, .int .i64 0, .bool false, .int .i64 0] := by kernel_rfl
theorem built_op : Try.prog.built 80 [(0, .int .i64 1), (2, .int .i64 3)] = some #[.int .i64 1, .int .i64 0, .int .i64 3, .int .i64 0, .slice none 0 0, .int .u32 0] := by kernel_rfl
/-- An empty row. -/
theorem row_start {w w1 : World} (hw1 : w1 = w.alloc (.cells #[.slice none 0 0, .slice none 0 0, .slice none 0 0, .int .i64 0, .int .i64 0, .slice none 0 0, .slice none 0 0, .int .i64 0, .bool false, .int .i64 0] 77 (0, 0))) : RowAt w w.heap.size [] [] w1 := by
  obtain ⟨k, hk⟩ : ∃ k : Bk, k = ⟨.slice none 0 0, .slice none 0 0, .slice none 0 0, 0, 0, .slice none 0 0, .slice none 0 0, 0, 0⟩ := ⟨_, rfl⟩
  have hc : k.cells = #[.slice none 0 0, .slice none 0 0, .slice none 0 0, .int .i64 0, .int .i64 0, .slice none 0 0, .slice none 0 0, .int .i64 0, .bool false, .int .i64 0] := by rw [hk]; rfl
  have hkk : Keeps [] w w1 := by rw [hw1]; exact (Keeps.refl _ _).alloc _
  have hr : BkAt w1 w.heap.size k := by
    unfold BkAt
    rw [hc, hw1]
    exact heap_new_at rfl
  have a1 := (At.start w).add hkk (t := rowThing w.heap.size k) hr (fun i hi => .inr (by simp [rowThing] at hi; omega))
  have nil : ∀ (t : TypeId) (size : Nat), ∀ i ∈ (qThing t size (.slice none 0 0) 0 []).F, i ∈ ([] : List Nat) ∨ w1.heap.size ≤ i := fun t size i hi => by simp [qThing, Value.ownBlock] at hi
  have a2 := a1.add (Keeps.refl _ _) (t := qThing 104 4 (.slice none 0 0) 0 []) (QOwn.nil _ _ _) (nil _ _)
  have a3 := a2.add (Keeps.refl _ _) (t := qThing 29 1 (.slice none 0 0) 0 []) (QOwn.nil _ _ _) (nil _ _)
  have a4 := a3.add (Keeps.refl _ _) (t := qThing 29 1 (.slice none 0 0) 0 []) (QOwn.nil _ _ _) (nil _ _)
  have a5 := a4.add (Keeps.refl _ _) (t := qThing 24 1 (.slice none 0 0) 0 []) (QOwn.nil _ _ _) (nil _ _)
  have a6 := a5.add (Keeps.refl _ _) (t := qThing 90 1 (.slice none 0 0) 0 []) (QOwn.nil _ _ _) (nil _ _)
  refine ⟨k, [], [], a6.perm (perm_of fun t => ?_), ⟨by simp, by simp, by simp⟩, by simp⟩
  rw [rowL, bookL_eq, hk]
  simp only [List.cons_append, List.nil_append, tcnt_cons, tcnt_append, bookR, List.map_nil, List.flatMap_nil, List.length_nil, tcnt_nil]
  omega
set_option maxRecDepth 100000 in
set_option maxHeartbeats 2000000 in
theorem plays_walk {w : World} {v : Value} {ops : List OpV} (h : OpsAt w v ops) (hok : ∀ o ∈ ops, o.ok w) (hl : ops.length ≤ 1048576) :
    Calls Try.prog 10 #[v] w fun e w' => e = .returned (.bool true) ∧ Below w.heap.size w w' := by
  obtain ⟨av, cv, rfl, hc1, hc2⟩ := h.form
  unfold maxLen at hc2
  obtain ⟨N, hN⟩ : ∃ N, N = ops.length := ⟨_, rfl⟩
  rw [← hN] at h hl hc1 ⊢
  obtain ⟨b, hb⟩ : ∃ b, b = w.heap.size := ⟨_, rfl⟩
  obtain ⟨w1, hw1⟩ : ∃ w1, w1 = w.alloc (.cells #[.slice none 0 0, .slice none 0 0, .slice none 0 0, .int .i64 0, .int .i64 0, .slice none 0 0, .slice none 0 0, .int .i64 0, .bool false, .int .i64 0] 77 (0, 0)) := ⟨_, rfl⟩
  have h1 := row_start hw1
  rw [← hb] at h1
  have hp : w1.cell? ⟨b, 9, none⟩ = some (.int .i64 0) := by
    rw [cell_of_row w1 b 9 _ _ _ (by rw [hw1]; exact heap_new_at hb)]
    rfl
  have HBR := Lib.hid (fun W => run_build (P := Try.prog) W _ _ _ built_row)
  have HBO := Lib.hid (fun W => run_build (P := Try.prog) W _ _ _ built_op)
  have CM := Lib.hid (makes_new 0 3 0 (.slice none 0 0) 0 0 h1 hp (by omega) (by simp))
  have HW1 := Lib.hid hw1
  have HB := Lib.hid hb
  have HNN := Lib.hid hN
  have HOPS := Lib.hid h
  have HOK := Lib.hid hok
  clear h hok hb hw1 h1 hp hN
  go_enter Try.func10, Try.ntmps10
  go_upto_region 2 with (refine wl_build rfl 77 #[] #[] rfl (by simp [Act.eval]) ?_; refine ⟨_, _, HBR.out _, ?_⟩; try simp only [Act.put, List.setIfInBounds_toArray, List.set_cons_zero, List.set_cons_succ, List.getElem_toArray, List.getElem_cons_zero, List.getElem_cons_succ])
  rw [← HW1.out, ← HB.out]
  go_wp2_with (refine wl_build rfl 80 #[(0, .const (.int .i64 1)), (2, .const (.int .i64 3))] #[(0, .int .i64 1), (2, .int .i64 3)] rfl (by simp [Act.eval]) ?_; refine ⟨_, _, HBO.out _, ?_⟩; try simp only [Act.put, List.setIfInBounds_toArray, List.set_cons_zero, List.set_cons_succ, List.getElem_toArray, List.getElem_cons_zero, List.getElem_cons_succ])
  refine CM.out.mono ?_
  rintro x w2 ⟨rfl, pv, rv, es2, hpair, h2⟩
  rw [List.nil_append] at h2
  have hpo := pair_ok hpair (fun h0 => (newC_like h0).1) (fun h0 => (newC_like h0).2) rfl
  have hc0 : newC 3 = 0 := rfl
  rw [hc0] at hpair
  rcases hpair with ⟨h0, _⟩ | ⟨_, bd, F, br, F', rfl, rfl, rfl⟩
  · exact absurd rfl h0
  obtain ⟨gd, od, cd, q0, qd, _, _, _, _, _, lc, _⟩ := h2.disks (by simp)
  have qd0 := qd 0 _ rfl
  simp only [Nat.add_zero, List.length_cons, List.length_nil, Nat.zero_add] at qd0 q0 lc
  have cp := pages_thing (h2.disk (e := ⟨bd, D.new (3 : Int).toNat, F, br, R.new (List.replicate (256 * (3 : Int).toNat) 0), F'⟩) (by simp))
  rw [show ((D.new (3 : Int).toNat).n : Int) = 3 from rfl] at cp
  have CP := Lib.hid cp
  have hes : ∃ es : List En, es.length = 1 ∧ (∀ e ∈ es, EnOk e 0) ∧ RowAt w b es [] w2 := ⟨_, rfl, hpo.2, h2⟩
  have HES := Lib.hid hes
  have H2 := Lib.hid h2
  have HPO := Lib.hid hpo
  clear h2 hpo CM qd HBR HBO hc0 cp hes
  go_wp2_with fail
  refine CP.out.mono ?_
  rintro x w3 ⟨rfl, rfl⟩
  clear q0 qd0 lc CP H2 HPO
  go_wp2_with fail
  go_loopw [5] (fun iv wr => ∃ i : Nat, i ≤ N ∧ iv = .int .i64 i ∧ ∃ es : List En, 0 < es.length ∧ es.length ≤ 1 + 2 * i ∧ (∀ e ∈ es, EnOk e (2 * i)) ∧ RowAt w b es [] wr) (fun iv _ => N - (intOf iv).toNat)
  case atStart =>
    obtain ⟨es, e1, e2, e3⟩ := HES.out
    exact ⟨0, Nat.zero_le _, rfl, es, by omega, by omega, e2, e3⟩
  case round =>
    obtain ⟨i, hi, rfl, es, hes0, hes1, hE, hR⟩ := hrel
    have i0 : (0 : Int) ≤ (i : Int) := by omega
    have HR := Lib.hid hR
    have HE := Lib.hid hE
    by_cases hlt : i < N
    · have i1 : (i : Int) < (N : Int) := by omega
      have hil : i < ops.length := by rw [← HNN.out]; exact hlt
      obtain ⟨g, o, rfl, hg, hrg⟩ := HOPS.out.at hil
      obtain ⟨O, hO⟩ : ∃ O, O = ops[i] := ⟨_, rfl⟩
      rw [← hO] at hrg
      have hOk : O.ok w := HOK.out O (by rw [hO]; exact List.getElem_mem _)
      have hrg2 : wr.rangeAt g (o + i * 6) O.cells.toList := rangeAt_of_heap hrg (hR.below.block g hg)
      have hld := run_loadAt_mid (P := Try.prog) wr g (o + i * 6) 80 O.cells.toList _ hrg2 Try.underlying80 rfl (by unfold OpV.cells; kernel_rfl)
      have hld2 : (Instr.loadAt 80 (.pointer (some ⟨g, o + i * 6, none⟩))).run Try.prog wr = .ok (.agg O.cells) wr := hld
      have HLD := Lib.hid hld2
      have CPL := Lib.hid (plays_any hR hOk hE (by omega) hes0 (by omega))
      obtain ⟨OC, hOC⟩ : ∃ OC, OC = O.cells := ⟨_, rfl⟩
      rw [← hOC] at HLD CPL
      clear hrg hrg2 hld hld2 hO hOk hil hR hE hOC
      go_upto_region 9 with (first | (refine wl_load rfl 80 (.tmp 32) rfl ?_; refine ⟨_, _, HLD.out, ?_⟩; try simp only [Act.put, List.setIfInBounds_toArray, List.set_cons_zero, List.set_cons_succ, List.getElem_toArray, List.getElem_cons_zero, List.getElem_cons_succ]) | (go_at_call 32; refine CPL.out.mono ?_; rintro x w4 ⟨rfl, es', l1, l2, hE', hR'⟩; have HE' := Lib.hid hE'; have HR' := Lib.hid hR'; clear hE' hR'))
      have CST := Lib.hid HR'.out.stands
      go_wp2_with fail
      refine CST.out.mono ?_
      rintro x w5 ⟨rfl, h5⟩
      have H5 := Lib.hid h5
      clear h5 CST
      go_wp2_with fail
      go_roundw
      case rel => exact ⟨i + 1, by omega, by go_num, es', l1, by omega, fun e he => (HE'.out e he).mono (by omega), H5.out⟩
      case measure => simp [intOf]; omega
    · have i1 : ¬ (i : Int) < (N : Int) := by omega
      have CE := Lib.hid hR.ends
      clear hR hE
      go_wp2_with fail
      refine CE.out.mono ?_
      rintro x w6 ⟨rfl, h6⟩
      have H6 := Lib.hid h6
      clear h6 CE
      go_wp2_with fail
      go_ret
      exact ⟨rfl, H6.out.below⟩
end Go.Proofs.Ytbjffjplpnnhoaa
