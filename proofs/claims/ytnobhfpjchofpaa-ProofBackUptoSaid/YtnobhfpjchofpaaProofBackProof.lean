/-
  Proved: each well formed proof comes back from its bytes, no other is laid out, and bytes that are taken are those of the proof that is told, over all arguments of bulk at most the row's bound.
  Conditions: none beyond the bulk that the second form itself sets.
-/
import Derived.Test.YtnobhfpjchofpaaRows
import Derived.Test.YtnobhfpjchofpaaOpenBs
import Derived.Test.YtnobhfpjchofpaaOpenPf
import Derived.Test.YtnobhfpjchofpaaCn
namespace Go.Proofs.Ytnobhfpjchofpaa.proofBack
set_option linter.unusedVariables false
set_option linter.unusedSimpArgs false
open Go.ChangeShapes Go.WideShapes Go.ChangeAt Go.RowKit Go.Deep

set_option maxRecDepth 100000 in
theorem contract (H : Type) (enc : TypeId × Value → H) (W : World) (base : Nat) (args : Array Value) (ds gs : List (DataW H)) (before : List MemPlace)
    (hval : ∀ (j : Nat) t v, Try.f7.params[j]? = some t → args[j]? = some v → Value.okWide Try.prog W .any base t v)
    (hW : DataW.Whole enc Try.prog Try.f7.params.toList Rows.proofBackSpec.vars false W args.toList ds gs before) (hk : Rows.uptoSmall H (ds ++ gs) = true) :
    Calls Try.prog 7 args W fun e W' => ∃ v, e = .returned v ∧ Rows.proofBackSpec.post enc Try.prog Try.f7 false true false false W args v W' := by
  have hW' := hW
  obtain ⟨p, q, hA0, hV, rfl, hfz, hnd⟩ := hW
  have hA : DataW.TrodAll enc Try.prog W 0 (fun _ => true) true Try.f7.params.toList args.toList ds p := hA0
  rw [Try.params7] at hA hval
  obtain ⟨v0, vs0, d0, ds0, p0, q0, hargs, rfl, rfl, h0, r0⟩ := trodAll_cons hA
  obtain ⟨v1, vs1, d1, ds1, p1, q1, rfl, rfl, rfl, h1, r1⟩ := trodAll_cons r0
  obtain ⟨rfl, rfl, rfl⟩ := trodAll_nil r1
  obtain rfl : args = #[v0, v1] := by
    cases args with
    | mk l =>
      have e : l = [v0, v1] := hargs
      rw [e]
  obtain ⟨rfl, rfl⟩ := trodVars_none hV
  obtain ⟨p0', P0, l0⟩ := open_pf (hval 0 30 v0 rfl rfl) h0
  obtain ⟨bs1, W1, ok1, l1⟩ := open_bs (hval 1 26 v1 rfl rfl) h1
  have hb := bulk_bound hk
  simp only [List.append_nil, List.cons_append, List.nil_append, Rows.uptoBulkAll] at hb
  clear hA0
  refine (back_law P0 W1 (by omega) (by omega)).mono fun e W' ⟨he, hg⟩ => ?_
  subst he
  exact ⟨_, rfl, law_post (tb := 4) laidOut hW' (by kernel_rfl) rfl rfl Try.underlying4 (fun ds' e => by subst e; exact ⟨rfl, rfl, rfl⟩) hg⟩

set_option maxRecDepth 100000 in
theorem lifted (os : Os) (started : os.Started) (H : Type) (enc : TypeId × Value → H) (F : Stop.Interp) :
    ReturnsInHanded {} Try.checked os 7 .any ((Rows.OpenSpec.upto Rows.proofBackSpec).pre6 enc Try.prog Try.f7 Rows.proofBackUptoRow.domain false) (((Rows.OpenSpec.upto Rows.proofBackSpec).at F).post enc Try.prog Try.f7 false true false false) := by
  refine returnsInHanded_of_cond (C := Try.checked) (s := Rows.OpenSpec.upto Rows.proofBackSpec) (k := Rows.uptoSmall) rfl own started (by kernel_rfl) Try.func7
    (OpenSpec.witness (enc := enc) (C := Try.checked) (s := Rows.OpenSpec.upto Rows.proofBackSpec) (k := Rows.uptoSmall) rfl false ⟨#[], #[.agg (#[.bool false, .slice none 0 0] ++ Array.replicate 32 (.int .u8 0) ++ #[.slice none 0 0]), .slice none 0 0], []⟩ 8 (by kernel_rfl) (by kernel_rfl) (by kernel_rfl)
      (x := ([.agg [.lit (.bool false), .nil, .agg (List.replicate 32 (.lit (.int .u8 0))), .nil], .nil], [], [])) (by kernel_rfl) rfl (by kernel_rfl)) ?_
  intro W base args ds gs before hval hW _ hk _
  exact contract H enc W base args ds gs before hval hW hk

theorem over : Rows.proofBackUptoRow.holds Try.pinned (Rows.OpenSpec.upto Rows.proofBackSpec) :=
  OpenClaim.holds_of_cond 7 Try.f7 rfl rfl rfl rfl rfl rfl rfl ⟨rfl, rfl, rfl, rfl, rfl⟩ rfl rfl rfl rfl rfl (by kernel_rfl) Try.func7 (by kernel_rfl)
    (of_decide_eq_true (by kernel_rfl)) (by unfold Func.isWrapper; first | (rw [if_pos (by decide +kernel)]; kernel_rfl) | (rw [if_neg (by decide +kernel)]; exact ⟨rfl, rfl⟩))
    (fun os started H enc _ F => lifted os started H enc F)

theorem proved : Rows.ProofBackUptoSaid :=
  over
end Go.Proofs.Ytnobhfpjchofpaa.proofBack
