/-
  Proved: over whatever pages are staged, forged ones too, each proof that Prove makes is what the path's pages say, or it is refused as the document says; nothing is staged, over all arguments of bulk at most the row's bound.
  Conditions: none beyond the bulk that the second form itself sets and the four variables (package digest's and ledgerref1's tables) that the card ties to the program's text.
-/
import Derived.Test.YtakaocenbempmaaGreatDoorCards
import Derived.Test.YtakaocenbempmaaGreatDoorTie
import Derived.ProofKit
import Derived.LaidMore
import Derived.OpenShut
import Derived.Stop.Joined
import Derived.SevenTiedAt
import Derived.Deep.DeepHandedRow
import Derived.Deep.DeepWitnessRowRef
import Derived.Test.YtakaocenbempmaaGreatDoorPfg
import Derived.Test.YtakaocenbempmaaGreatDoorPfi
import Derived.Test.YtakaocenbempmaaGreatDoorPfk
namespace Go.Proofs.YtakaocenbempmaaGreatDoor.proofForged
set_option linter.unusedVariables false
set_option linter.unusedSimpArgs false
open Go Go.ChangeShapes Go.WideShapes Go.ChangeAt Go.RowKit

/-- The door's own heap meets the condition. -/
theorem door_met (os : Os) (args : Array Value) : laidMetH Tryz.prog laid4 ((World.doorLaid Tryz.prog 400 os).forCall (fun _ _ => 0) ⟨#[], args, []⟩).memory :=
  laidMetH_of_parts3 (fuel := 8) (laidMet_of_run' 8 (by kernel_rfl) (by kernel_rfl)) (by kernel_rfl) (by kernel_rfl)

theorem pages_arg {w : World} {v : Value} {l : List (Int × List UInt8)} (h : RowsAt 2 PgIn w v l) : PgArg w v l := by
  rcases h with h | ⟨g, o, cap, h1, h2, h3, h4, h5⟩
  · exact .inl h
  · refine .inr ⟨g, o, cap, h1, h2, h3, h4, fun k hk => ?_⟩
    obtain ⟨cs, ⟨lv, rfl, hb⟩, hr⟩ := h5 k hk
    exact ⟨lv, hr, hb⟩
theorem asks_arg {w : World} {v : Value} {l : List (Int × List UInt8)} (h : RowsAt 33 AskIn w v l) : AskArg w v l := by
  rcases h with h | ⟨g, o, cap, h1, h2, h3, h4, h5⟩
  · exact .inl h
  · refine .inr ⟨g, o, cap, h1, h2, h3, h4, fun k hk => ?_⟩
    obtain ⟨cs, ⟨rfl, hb⟩, hr⟩ := h5 k hk
    exact ⟨hr, hb⟩
theorem walk {W : World} {n0 n1 : Int} {pv av : Value} {L A : List (Int × List UInt8)} (hp : PgArg W pv L) (ha : AskArg W av A) (hld : ∀ p ∈ L, p.2.length ≤ 1048576) (hA : A.length ≤ 1048576) (ht : Tabs W) (hr : RTabs W) :
    Calls Tryz.prog 3 #[.int .i64 n0, .int .i64 n1, pv, av] W fun e w' => e = .returned (.bool true) ∧ Below W.heap.size W w' := by
  obtain ⟨a, c, rfl⟩ := hp.form
  obtain ⟨a2, c2, rfl⟩ := ha.form
  by_cases h : 1 ≤ n0 ∧ n0 ≤ 32 ∧ 1 ≤ n1 ∧ n1 ≤ 4096
  · by_cases hl : L.length ≤ 4000
    · obtain ⟨h1, h2, h3, h4⟩ := h
      have := forged_fit (w := W) (width := n0.toNat) (room := n1.toNat) (by omega) (by omega) (by omega) (by omega) hp ha hl hld hA ht hr
      rw [show ((n0.toNat : Nat) : Int) = n0 by omega, show ((n1.toNat : Nat) : Int) = n1 by omega] at this
      exact this
    · exact forged_long (by omega) h
  · exact forged_unfit h

set_option maxRecDepth 100000 in
theorem contract (H : Type) (enc : TypeId × Value → H) (W : World) (base : Nat) (args : Array Value) (ds gs : List (DataW H)) (before : List MemPlace)
    (hval : ∀ (j : Nat) t v, Tryz.f3.params[j]? = some t → args[j]? = some v → Value.okWide Tryz.prog W .any base t v)
    (hW : DataW.Whole enc Tryz.prog Tryz.f3.params.toList Rows.proofForgedSpec.vars false W args.toList ds gs before) (hk : Rows.uptoSmall H (ds ++ gs) = true) (hL : laidMet Tryz.prog laid4 W) :
    Calls Tryz.prog 3 args W fun e W' => ∃ v, e = .returned v ∧ Rows.proofForgedSpec.post enc Tryz.prog Tryz.f3 false true false false W args v W' := by
  have hW' := hW
  obtain ⟨p, q, hA0, hV, rfl, hfz, hnd⟩ := hW
  have hA : DataW.TrodAll enc Tryz.prog W 0 (fun _ => true) true Tryz.f3.params.toList args.toList ds p := hA0
  rw [Tryz.params3] at hA hval
  obtain ⟨v0, vs0, d0, ds0, p0, q0, hargs, rfl, rfl, h0, r0⟩ := trodAll_cons hA
  obtain ⟨v1, vs1, d1, ds1, p1, q1, rfl, rfl, rfl, h1, r1⟩ := trodAll_cons r0
  obtain ⟨v2, vs2, d2, ds2, p2, q2, rfl, rfl, rfl, h2, r2⟩ := trodAll_cons r1
  obtain ⟨v3, vs3, d3, ds3, p3, q3, rfl, rfl, rfl, h3, r3⟩ := trodAll_cons r2
  obtain ⟨rfl, rfl, rfl⟩ := trodAll_nil r3
  obtain rfl : args = #[v0, v1, v2, v3] := by
    cases args with
    | mk l =>
      have e : l = [v0, v1, v2, v3] := hargs
      rw [e]
  obtain ⟨rfl, rfl⟩ := trodVars_none hV
  obtain ⟨n0, rfl, rfl, rfl, wn0⟩ := open_int Tryz.underlying3 (hval 0 3 v0 rfl rfl) h0
  obtain ⟨n1, rfl, rfl, rfl, wn1⟩ := open_int Tryz.underlying3 (hval 1 3 v1 rfl rfl) h1
  obtain ⟨L, hp, _, hpl⟩ := open_pages (hval 2 22 v2 rfl rfl) h2
  obtain ⟨A, ha, hal⟩ := open_asks (hval 3 23 v3 rfl rfl) h3
  have hb := bulk_bound hk
  simp only [List.append_nil, List.cons_append, List.nil_append, Rows.uptoBulkAll] at hb
  obtain ⟨t1, t2⟩ := tabs4_of_laid hL
  clear hA0
  refine (walk (pages_arg hp) (asks_arg ha) (fun x hx => by have := hpl x hx; omega) (by omega) t1 t2).mono fun e W' ⟨he, hg⟩ => ?_
  subst he
  exact ⟨_, rfl, law_post (tb := 4) laidOut hW' (by kernel_rfl) rfl rfl Tryz.underlying4 (fun ds' e => by subst e; exact ⟨rfl, rfl, rfl⟩) hg⟩

set_option maxRecDepth 100000 in
theorem lifted (os : Os) (started : os.Started) (H : Type) (enc : TypeId × Value → H) (F : Stop.Interp) :
    ReturnsInHanded {} Tryz.checked os 3 .any ((Rows.OpenSpec.upto Rows.proofForgedSpec).preRow enc Tryz.prog Tryz.f3 Rows.proofForgedUptoRow.domain false Rows.proofForgedUptoRow.laid) (((Rows.OpenSpec.upto Rows.proofForgedSpec).at F).post enc Tryz.prog Tryz.f3 false true false false) := by
  refine returnsInHanded_of_row (C := Tryz.checked) (s := Rows.OpenSpec.upto Rows.proofForgedSpec) own started (by kernel_rfl) Tryz.func3
    (witness_row_atRef (enc := enc) (C := Tryz.checked) false (World.doorLaid Tryz.prog 400 os) #[.int .i64 0, .int .i64 0, .slice none 0 0, .slice none 0 0] rfl (by kernel_rfl) (by kernel_rfl) (by kernel_rfl)
      (OpenSpec.preRow_of_cond 8 (x := ([.lit (.int .i64 0), .lit (.int .i64 0), .nil, .nil], [], [])) (by kernel_rfl) (by kernel_rfl) (fun k hk => by cases hk; kernel_rfl) (by kernel_rfl) (door_met os _))) ?_
  intro W base args ds gs before hval hW _ hk _ hL _ _
  exact contract H enc W base args ds gs before hval hW (hk _ rfl) (show laidMet Tryz.prog laid4 W from hL)

theorem over : Rows.proofForgedUptoRow.holds Tryz.pinned (Rows.OpenSpec.upto Rows.proofForgedSpec) :=
  OpenClaim.holds_of_cond 3 Tryz.f3 rfl rfl rfl rfl rfl rfl rfl ⟨rfl, rfl, rfl, rfl, rfl⟩ rfl rfl rfl rfl rfl (by kernel_rfl) Tryz.func3 (by kernel_rfl)
    (of_decide_eq_true (by kernel_rfl)) (by unfold Func.isWrapper; first | (rw [if_pos (by decide +kernel)]; kernel_rfl) | (rw [if_neg (by decide +kernel)]; exact ⟨rfl, rfl⟩))
    (fun os started H enc _ F => by rw [OpenClaim.pre_eq_preRow]; exact lifted os started H enc F)

theorem proved : Rows.ProofForgedUptoCardSaid :=
  Claim7.holds_tied_plain_at .later [] _ _ _ _
    over (fun _ h => by cases h) (by kernel_rfl) (fun _ h => by cases h) proofForgedUpto_row_tie rfl ⟨rfl, rfl⟩ (by kernel_rfl) rfl
    (fun f fn hf hfn => by
      obtain rfl : f = 3 := Option.some.inj ((show Tryz.prog.funcNamed "ledger/ledgerlaw12.ProofForged" = some 3 by kernel_rfl).symm.trans hf) |>.symm
      obtain rfl : fn = Tryz.f3 := (Option.some.inj (Tryz.func3.symm.trans hfn)).symm
      exact ⟨by kernel_rfl, fun j t ht => by
        rw [Tryz.params3] at ht
        match j, ht with
        | 0, ht => obtain rfl := Option.some.inj ht; exact (show Tryz.prog.wantsStandIn 3 = false by kernel_rfl)
        | 1, ht => obtain rfl := Option.some.inj ht; exact (show Tryz.prog.wantsStandIn 3 = false by kernel_rfl)
        | 2, ht => obtain rfl := Option.some.inj ht; exact (show Tryz.prog.wantsStandIn 22 = false by kernel_rfl)
        | 3, ht => obtain rfl := Option.some.inj ht; exact (show Tryz.prog.wantsStandIn 23 = false by kernel_rfl)
        | n + 4, ht => simp at ht⟩)
    (by kernel_rfl)
end Go.Proofs.YtakaocenbempmaaGreatDoor.proofForged
