/-
  Package proof: the reader's number.
-/
import Derived.Test.YtnobhfpjchofpaaCh
namespace Go.Proofs.Ytnobhfpjchofpaa
set_option linter.unusedVariables false
set_option linter.unusedSimpArgs false
open Go.RowKit

theorem run_eq_nil (w : World) (a : Option Addr) (n c : Nat) : (binOp .eql 26 (.slice a n c) (.slice none 0 0)).run Try.prog w = .ok (.bool a.isNone) w := by
  have h : (Op.equalIn 10000 26 (.slice a n c) (.slice none 0 0)).run Try.prog w = .ok a.isNone w := by
    rw [show (10000 : Nat) = 9999 + 1 from rfl, Op.equalIn]
    simp only [Sem.run_bind, run_underlying Try.underlying26, Result.andThen_ok]
    cases a <;> rfl
  unfold binOp
  simp only [Op.equal, Op.maxDepth, Sem.run_bind, h, Result.andThen_ok, Sem.run_pure]
theorem run_eq_nil_some (w : World) (x : Addr) (n c : Nat) : (binOp .eql 26 (.slice (some x) n c) (.slice none 0 0)).run Try.prog w = .ok (.bool false) w := run_eq_nil w (some x) n c
theorem run_eq_nil_none (w : World) : (binOp .eql 26 (.slice none 0 0) (.slice none 0 0)).run Try.prog w = .ok (.bool true) w := run_eq_nil w none 0 0

theorem or_two (x y : Nat) (hx : x < 256) (hy : y < 256) : bits BinOp.or IntKind.i64 (IntKind.i64.wrap (x : Int)) (IntKind.i64.wrap (IntKind.i64.wrap (y : Int) * 256)) = ((x + 256 * y : Nat) : Int) := by
  rw [IntWalk.i64_in (x : Int) (by omega), IntWalk.i64_in (y : Int) (by omega), IntWalk.i64_in ((y : Int) * 256) (by omega)]
  have e1 : (BitVec.ofInt 64 (x : Int)).toNat = x := by rw [BitVec.toNat_ofInt]; omega
  have e2 : (BitVec.ofInt 64 ((y : Int) * 256)).toNat = y * 256 := by rw [BitVec.toNat_ofInt]; omega
  have e3 : x ||| y * 256 = x + 256 * y := by
    have h := Nat.shiftLeft_add_eq_or_of_lt (b := x) (i := 8) (by omega) y
    rw [Nat.shiftLeft_eq] at h
    rw [Nat.or_comm, ← h]
    omega
  show IntKind.i64.wrap (((BitVec.ofInt 64 (x : Int) ||| BitVec.ofInt 64 ((y : Int) * 256)).toNat : Nat) : Int) = _
  rw [BitVec.toNat_or, e1, e2, e3]
  exact IntWalk.i64_in _ (by omega)

set_option maxRecDepth 100000 in
theorem number_short {w : World} {rb : Nat} {a : Option Addr} {len c : Nat} {sh : Bool} (hr : RdAt w rb (.slice a len c) sh) (hn : len < 2) :
    Calls Try.prog 27 #[.pointer (some ⟨rb, 0, none⟩)] w fun e w' => e = .returned (.int .i64 0) ∧ RdAt w' rb (.slice none 0 0) true ∧ Keeps [rb] w w' := by
  have cT := Lib.hid (take_short hr 2 hn (by omega))
  clear hr
  go_enter Try.func27, Try.ntmps27
  go_wp2_with fail
  refine cT.out.mono ?_
  rintro e w1 ⟨rfl, hR, hk⟩
  have HR := Lib.hid hR
  have hnil := run_eq_nil_none w1
  clear hR
  go_wp2_with fail
  go_ret
  exact ⟨rfl, HR.out, hk⟩

set_option maxRecDepth 100000 in
theorem number_ok {w : World} {rb : Nat} {a : Option Addr} {c : Nat} {l : List UInt8} {sh : Bool} (hr : RdAt w rb (.slice a l.length c) sh) (hl : BytesAt w (.slice a l.length c) l) (hne : ∀ k, (Value.slice a l.length c).elemBlock = some k → k ≠ rb)
    (x y : UInt8) (t : List UInt8) (hx : l = x :: y :: t) :
    Calls Try.prog 27 #[.pointer (some ⟨rb, 0, none⟩)] w fun e w' => e = .returned (.int .i64 (x.toNat + 256 * y.toNat : Nat)) ∧ RdAt w' rb (sliced a 2 l.length c 1) sh ∧ Keeps [rb] w w' := by
  have cT := Lib.hid (take_ok hr hl 2 (by rw [hx]; simp))
  obtain ⟨g, o, rfl, hg, hrr⟩ := hl.at (by rw [hx]; simp)
  have hgb : g ≠ rb := hne g (by rw [hx]; rfl)
  have x0 : l[0]? = some x := by rw [hx]; rfl
  have x1 : l[1]? = some y := by rw [hx]; rfl
  have hx8 := x.toNat_lt
  have hy8 := y.toNat_lt
  clear hr hne hl
  go_enter Try.func27, Try.ntmps27
  go_wp2_with fail
  refine cT.out.mono ?_
  rintro e w1 ⟨rfl, hR, hk⟩
  have HR := Lib.hid hR
  have c0 := range_byte (w' := w1) hrr (hk.block g hg (by simpa using hgb)) x0
  have c1 := range_byte (w' := w1) hrr (hk.block g hg (by simpa using hgb)) x1
  rw [Nat.add_zero] at c0
  have HX := Lib.hid hx
  have hnil := run_eq_nil_some w1 ⟨g, o, none⟩ 2 2
  clear hR hrr x0 x1 hx
  go_wp2_with fail
  refine wp_region_held_drew (S := (fun w' => w'.cell? ⟨g, o, none⟩ = some (.int .u8 x.toNat) ∧ w'.cell? ⟨g, o + 1, none⟩ = some (.int .u8 y.toNat))) (by kernel_rfl) ?_ (fun hHeld => ?_)
  · exact ⟨c0, c1⟩
  refine' wpAnyH_take (i := 0) (v := _) rfl (by kernel_rfl) (by kernel_rfl) (by kernel_rfl) (fun _ _ _ h => h) (Or.inl ⟨by rfl, ?_⟩) (by assumption) ?_
  rotate_left 1
  · (intro w0 hSw; (try dsimp only at hSw); go_split_ands; go_simp; (try with_reducible rfl))
  try simp only [Act.put, List.setIfInBounds_toArray, List.set_cons_zero, List.set_cons_succ, List.getElem_toArray, List.getElem_cons_zero, List.getElem_cons_succ]
  refine' wpAnyH_take (i := 1) (v := _) rfl (by kernel_rfl) (by kernel_rfl) (by kernel_rfl) (fun _ _ _ h => h) (Or.inl ⟨by rfl, ?_⟩) (by assumption) ?_
  rotate_left 1
  · (intro w0 hSw; (try dsimp only at hSw); go_split_ands; go_simp; (try with_reducible rfl))
  try simp only [Act.put, List.setIfInBounds_toArray, List.set_cons_zero, List.set_cons_succ, List.getElem_toArray, List.getElem_cons_zero, List.getElem_cons_succ]
  refine' wpAnyH_take (i := 2) (v := _) rfl (by kernel_rfl) (by kernel_rfl) (by kernel_rfl) (fun _ _ _ h => h) (Or.inl ⟨by rfl, ?_⟩) (by assumption) ?_
  rotate_left 1
  · (intro w0 hSw; (try dsimp only at hSw); go_split_ands; go_simp; (try with_reducible rfl))
  try simp only [Act.put, List.setIfInBounds_toArray, List.set_cons_zero, List.set_cons_succ, List.getElem_toArray, List.getElem_cons_zero, List.getElem_cons_succ]
  refine' wpAnyH_take (i := 3) (v := _) rfl (by kernel_rfl) (by kernel_rfl) (by kernel_rfl) (fun _ _ _ h => h) (Or.inl ⟨by rfl, ?_⟩) (by assumption) ?_
  rotate_left 1
  · (intro w0 hSw; (try dsimp only at hSw); go_split_ands; go_simp; (try with_reducible rfl))
  try simp only [Act.put, List.setIfInBounds_toArray, List.set_cons_zero, List.set_cons_succ, List.getElem_toArray, List.getElem_cons_zero, List.getElem_cons_succ]
  refine' wpAnyH_take (i := 4) (v := _) rfl (by kernel_rfl) (by kernel_rfl) (by kernel_rfl) (fun _ _ _ h => h) (Or.inl ⟨by rfl, ?_⟩) (by assumption) ?_
  rotate_left 1
  · (intro w0 hSw; (try dsimp only at hSw); go_split_ands; go_simp; (try with_reducible rfl))
  try simp only [Act.put, List.setIfInBounds_toArray, List.set_cons_zero, List.set_cons_succ, List.getElem_toArray, List.getElem_cons_zero, List.getElem_cons_succ]
  refine' wpAnyH_take (i := 5) (v := _) rfl (by kernel_rfl) (by kernel_rfl) (by kernel_rfl) (fun _ _ _ h => h) (Or.inl ⟨by rfl, ?_⟩) (by assumption) ?_
  rotate_left 1
  · (intro w0 hSw; (try dsimp only at hSw); go_split_ands; go_simp; (try with_reducible rfl))
  try simp only [Act.put, List.setIfInBounds_toArray, List.set_cons_zero, List.set_cons_succ, List.getElem_toArray, List.getElem_cons_zero, List.getElem_cons_succ]
  refine' wpAnyH_take (i := 6) (v := _) rfl (by kernel_rfl) (by kernel_rfl) (by kernel_rfl) (fun _ _ _ h => h) (Or.inl ⟨by rfl, ?_⟩) (by assumption) ?_
  rotate_left 1
  · (intro w0 hSw; (try dsimp only at hSw); go_split_ands; go_simp; (try with_reducible rfl))
  try simp only [Act.put, List.setIfInBounds_toArray, List.set_cons_zero, List.set_cons_succ, List.getElem_toArray, List.getElem_cons_zero, List.getElem_cons_succ]
  refine' wpAnyH_take (i := 7) (v := _) rfl (by kernel_rfl) (by kernel_rfl) (by kernel_rfl) (fun _ _ _ h => h) (Or.inl ⟨by rfl, ?_⟩) (by assumption) ?_
  rotate_left 1
  · (intro w0 hSw; (try dsimp only at hSw); go_split_ands; go_simp; (try with_reducible rfl))
  try simp only [Act.put, List.setIfInBounds_toArray, List.set_cons_zero, List.set_cons_succ, List.getElem_toArray, List.getElem_cons_zero, List.getElem_cons_succ]
  refine' wpAnyH_take (i := 8) (v := _) rfl (by kernel_rfl) (by kernel_rfl) (by kernel_rfl) (fun _ _ _ h => h) (Or.inl ⟨by rfl, ?_⟩) (by assumption) ?_
  rotate_left 1
  · (intro w0 hSw; (try dsimp only at hSw); go_split_ands; go_simp; (try with_reducible rfl))
  try simp only [Act.put, List.setIfInBounds_toArray, List.set_cons_zero, List.set_cons_succ, List.getElem_toArray, List.getElem_cons_zero, List.getElem_cons_succ]
  refine' wpAnyH_take (i := 9) (v := _) rfl (by kernel_rfl) (by kernel_rfl) (by kernel_rfl) (fun _ _ _ h => h) (Or.inl ⟨by rfl, ?_⟩) (by assumption) ?_
  rotate_left 1
  · (intro w0 hSw; (try dsimp only at hSw); go_split_ands; go_simp; (try with_reducible rfl))
  try simp only [Act.put, List.setIfInBounds_toArray, List.set_cons_zero, List.set_cons_succ, List.getElem_toArray, List.getElem_cons_zero, List.getElem_cons_succ]
  refine' wpAnyH_take (i := 10) (v := _) rfl (by kernel_rfl) (by kernel_rfl) (by kernel_rfl) (fun _ _ _ h => h) (Or.inl ⟨by rfl, ?_⟩) (by assumption) ?_
  rotate_left 1
  · (intro w0 hSw; (try dsimp only at hSw); go_split_ands; go_simp; (try with_reducible rfl))
  try simp only [Act.put, List.setIfInBounds_toArray, List.set_cons_zero, List.set_cons_succ, List.getElem_toArray, List.getElem_cons_zero, List.getElem_cons_succ]
  refine wpAnyH_done (by kernel_rfl) ?_ _
  go_wp2_with fail
  go_ret
  refine ⟨?_, HR.out, hk.drew⟩
  show Ending.returned (.int .i64 (bits BinOp.or IntKind.i64 (IntKind.i64.wrap (x.toNat : Int)) (IntKind.i64.wrap (IntKind.i64.wrap (y.toNat : Int) * 256)))) = _
  rw [or_two _ _ x.toNat_lt y.toNat_lt]
end Go.Proofs.Ytnobhfpjchofpaa
