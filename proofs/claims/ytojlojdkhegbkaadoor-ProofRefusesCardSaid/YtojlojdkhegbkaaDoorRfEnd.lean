/-
  Proved: Prove refuses in the document's order: no store, a store without power, a stale one, a page that is no node's; of the empty tree it answers the empty proof.
  Conditions: none beyond the two variables of package digest that the card ties to the program's text.
-/
import Derived.Test.YtojlojdkhegbkaaDoorCards
import Derived.Test.YtojlojdkhegbkaaDoorTie
import Derived.ProofKit
import Derived.LaidMore
import Derived.OpenShut
import Derived.Stop.Joined
import Derived.SevenTiedAt
import Derived.Test.YtojlojdkhegbkaaDoorRfN
import Derived.Test.YtojlojdkhegbkaaDoorRfP
import Derived.Test.YtojlojdkhegbkaaDoorRfQ
namespace Go.Proofs.YtojlojdkhegbkaaDoor.proofRefuses
set_option linter.unusedVariables false
set_option linter.unusedSimpArgs false
open Go Go.ChangeShapes Go.WideShapes Go.ChangeAt Go.RowKit

/-- The door's own heap meets the condition. -/
theorem door_met (os : Os) (args : Array Value) : laidMetH Tryd.prog laid2 ((World.doorLaid Tryd.prog 400 os).forCall (fun _ _ => 0) ⟨#[], args, []⟩).memory :=
  laidMetH_of_parts3 (fuel := 8) (laidMet_of_run' 8 (by kernel_rfl) (by kernel_rfl)) (by kernel_rfl) (by kernel_rfl)

theorem walk {W : World} {n0 n1 n2 : Int} {key : List UInt8} (ht : Tabs W) (hk : key.length = 32) :
    Calls Tryd.prog 3 #[.int .i64 n0, .int .i64 n1, .int .i64 n2, .agg (key.map B).toArray] W fun e w' => e = .returned (.bool true) ∧ Keeps [] W w' := by
  by_cases h : 1 ≤ n0 ∧ n0 ≤ 32 ∧ 1 ≤ n1 ∧ n1 ≤ 4096
  · obtain ⟨h1, h2, h3, h4⟩ := h
    have := refuses_fit (w := W) (width := n0.toNat) (room := n1.toNat) (root := n2) (key := key) (by omega) (by omega) (by omega) (by omega) ht hk
    rw [show ((n0.toNat : Nat) : Int) = n0 by omega, show ((n1.toNat : Nat) : Int) = n1 by omega] at this
    exact this
  · exact refuses_unfit h

set_option maxRecDepth 100000 in
theorem lifted (os : Os) (started : os.Started) (H : Type) (enc : TypeId × Value → H) :
    ReturnsInHanded {} Tryd.checked os 3 .any (fun w args => (Rows.proofRefusesSpec.pre enc Tryd.prog Tryd.f3 [] false w args ∧ laidMetH Tryd.prog laid2 w) ∧ sizedMet enc Tryd.prog Tryd.f3 (OpenSpec.ofChange Rows.proofRefusesSpec) false w args)
      (Rows.proofRefusesSpec.post enc Tryd.prog Tryd.f3 false true false false) := by
  refine returnsInHanded_of_change_and (C := Tryd.checked) (X := fun w _ => laidMetH Tryd.prog laid2 w) (fun _ _ _ hh h => h.of_heap hh) own started (by kernel_rfl) Tryd.func3
    (ChangeSpec.witness_shaped (enc := enc) (C := Tryd.checked) (os := os) (X := fun w _ => laidMetH Tryd.prog laid2 w) false (World.doorLaid Tryd.prog 400 os) #[.int .i64 0, .int .i64 0, .int .i64 0, .agg (Array.replicate 32 (.int .u8 0))] 8 rfl (World.shaped_of_RefB (by kernel_rfl) (by kernel_rfl)) (by kernel_rfl) (by kernel_rfl) (by kernel_rfl) (door_met os _)) ?_
  intro W base args ds gs before hval0 hW _ _ hL _
  have hW' := hW
  obtain ⟨p, q, hA0, hV, rfl, hfz, hnd⟩ := hW
  have hA : DataW.TrodAll enc Tryd.prog W 0 (fun _ => true) true Tryd.f3.params.toList args.toList ds p := hA0
  have hval : ∀ (j : Nat) t v, Tryd.f3.params[j]? = some t → args[j]? = some v → Value.okWide Tryd.prog W .any base t v := hval0
  rw [Tryd.params3] at hA hval
  obtain ⟨v0, vs0, d0, ds0, p0, q0, hargs, rfl, rfl, h0, r0⟩ := trodAll_cons hA
  obtain ⟨v1, vs1, d1, ds1, p1, q1, rfl, rfl, rfl, h1, r1⟩ := trodAll_cons r0
  obtain ⟨v2, vs2, d2, ds2, p2, q2, rfl, rfl, rfl, h2, r2⟩ := trodAll_cons r1
  obtain ⟨v3, vs3, d3, ds3, p3, q3, rfl, rfl, rfl, h3, r3⟩ := trodAll_cons r2
  obtain ⟨rfl, rfl, rfl⟩ := trodAll_nil r3
  obtain rfl : args = #[v0, v1, v2, v3] := by
    cases args with
    | mk l =>
      have e : l = [v0, v1, v2, v3] := hargs
      rw [e]
  obtain ⟨rfl, rfl⟩ := trodVars_none hV
  obtain ⟨n0, rfl, rfl, rfl, wn0⟩ := open_int Tryd.underlying3 (hval 0 3 v0 rfl rfl) h0
  obtain ⟨n1, rfl, rfl, rfl, wn1⟩ := open_int Tryd.underlying3 (hval 1 3 v1 rfl rfl) h1
  obtain ⟨n2, rfl, rfl, rfl, wn2⟩ := open_int Tryd.underlying3 (hval 2 3 v2 rfl rfl) h2
  obtain ⟨key, hk, rfl⟩ := open_key (hval 3 23 v3 rfl rfl) h3
  have hL' : laidMet Tryd.prog laid2 W := hL
  clear hA0
  refine (walk (tabs_of_laid hL') hk).mono fun e W' ⟨he, hg⟩ => ?_
  subst he
  exact ⟨_, rfl, law_post (tb := 4) laidOut hW' (by kernel_rfl) rfl rfl Tryd.underlying4 (fun ds' e => by subst e; exact ⟨rfl, rfl, rfl⟩) (hg.below0 (Nat.le_refl _))⟩

theorem row_holds : Rows.ProofRefusesSaid :=
  OpenClaim.holds_of_wide 3 Tryd.f3 rfl rfl rfl rfl rfl rfl rfl ⟨rfl, rfl, rfl, rfl, rfl⟩ rfl rfl rfl rfl rfl (by kernel_rfl) Tryd.func3 (by kernel_rfl)
    (of_decide_eq_true (by kernel_rfl)) (by unfold Func.isWrapper; first | (rw [if_pos (by decide +kernel)]; kernel_rfl) | (rw [if_neg (by decide +kernel)]; exact ⟨rfl, rfl⟩))
    (fun os started H enc _ => lifted os started H enc)

theorem proved : Rows.ProofRefusesCardSaid :=
  Claim7.holds_tied_plain_at .later [] [.data, .data] true (true, "b1bebfd9299d849df36c31d87334fd421d2a24230f0bbcea76ddace96cd70039") true
    row_holds (fun _ h => by cases h) (by kernel_rfl) (fun _ h => by cases h) proofRefuses_row_tie rfl ⟨rfl, rfl⟩ (by kernel_rfl) rfl
    (fun f fn hf hfn => by
      obtain rfl : f = 3 := Option.some.inj ((show Tryd.prog.funcNamed "ledger/ledgerlaw12.ProofRefuses" = some 3 by kernel_rfl).symm.trans hf) |>.symm
      obtain rfl : fn = Tryd.f3 := (Option.some.inj (Tryd.func3.symm.trans hfn)).symm
      exact ⟨by kernel_rfl, fun j t ht => by
        rw [Tryd.params3] at ht
        match j, ht with
        | 0, ht => obtain rfl := Option.some.inj ht; exact (show Tryd.prog.wantsStandIn 3 = false by kernel_rfl)
        | 1, ht => obtain rfl := Option.some.inj ht; exact (show Tryd.prog.wantsStandIn 3 = false by kernel_rfl)
        | 2, ht => obtain rfl := Option.some.inj ht; exact (show Tryd.prog.wantsStandIn 3 = false by kernel_rfl)
        | 3, ht => obtain rfl := Option.some.inj ht; exact (show Tryd.prog.wantsStandIn 23 = false by kernel_rfl)
        | n + 4, ht => simp at ht⟩)
    (by kernel_rfl)
end Go.Proofs.YtojlojdkhegbkaaDoor.proofRefuses
