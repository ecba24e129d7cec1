/-
  Lemmas of a claim, bundle h: XOpen XOpenBs.
-/
import Derived.ProofKit
import Derived.OpenShut
import Derived.JoinedCond
import Derived.Deep.Slices
import Derived.ChangeSame
import Derived.Test.YtakaocenbempmaaGreatDoorPfB
set_option linter.unusedVariables false
set_option linter.unusedSimpArgs false
namespace Go.Proofs.YtakaocenbempmaaGreatDoor
open Go.ChangeShapes Go.WideShapes Go.ChangeAt Go.RowKit Go.Deep
theorem own:ownKnob Tryz.prog.godebug=none:=by kernel_rfl
theorem laidOut:laidOutB Tryz.prog=true:=by kernel_rfl
section
variable {H:Type} {enc:TypeId × Value→H} {P:Program} {W W':World}
theorem trodAll_below (hl:laidOutB P=true) (hb:Below W.heap.size W W'):∀ {ts:List TypeId} {vs:List Value} {ds:List (DataW H)} {ps:List MemPlace},ts.all (fun t=>P.readableRec t && decide (t < P.types.size))=true →
  DataW.TrodAll enc P W 0 (fun _=>true) true ts vs ds ps→(∀ x∈ps,x.block < W.heap.size)→DataW.TrodAll enc P W' 0 (fun b=>decide (b < W.heap.size)) true ts vs ds ps:=by
 intro ts
 induction ts with
 | nil =>
  intro vs ds ps _ h _
  obtain ⟨rfl,rfl,rfl⟩:=trodAll_nil h
  exact trodAll_mk0
 | cons t ts ih =>
  intro vs ds ps hr h hlt
  obtain ⟨v,vs',d,ds',p,q,rfl,rfl,rfl,h0,h1⟩:=trodAll_cons h
  simp only [List.all_cons,Bool.and_eq_true,decide_eq_true_eq] at hr
  exact trodAll_cons_mk (Below.trod hl hr.1.1 hr.1.2 h0 hb (fun x hx=>hlt x (by simp [hx]))) (ih hr.2 h1 (fun x hx=>hlt x (by simp [hx])))
theorem law_post {f:Func} {s:ChangeSpec} {args:Array Value} {ds gs:List (DataW H)} {before:List MemPlace} {tb:TypeId} (hl:laidOutB P=true) (hW:DataW.Whole enc P f.params.toList s.vars false W args.toList ds gs before)
  (hr:f.params.toList.all (fun t=>P.readableRec t && decide (t < P.types.size))=true) (hvars:s.vars=[]) (hres:f.resultTypes=#[tb]) (htb:P.underlying tb=some .bool)
  (hs:∀ ds':List (DataW H),ds'=ds→(s.fn H (ds'++gs)).results=[.lit (.bool true)]∧(s.fn H (ds'++gs)).args=ds∧(s.fn H (ds'++gs)).vars=[]) (hb:Below W.heap.size W W') :
  s.post enc P f false true false false W args (.bool true) W':=by
 obtain ⟨h1,h2,h3⟩:=hs ds rfl
 have hlt:=hW.lt
 obtain ⟨p,q,hA,hV,hpq,_,_⟩:=id hW
 have hAll:=trodAll_below hl hb hr hA (fun x hx=>hlt x (by rw [hpq];simp [hx]))
 refine ⟨ds,gs,before,[],p,[],hW,?_,?_,?_,hb.frame _,fun h=>by cases h⟩
 ·rw [h1,hres]
  exact trodAll_mk1 (shut_bool htb true)
 ·rw [h2];exact hAll
 ·rw [h3,hvars]
  rfl
end
theorem bulk_one {H:Type} (d:DataW H):1≤Rows.uptoBulk d:=by
 cases d with
 | lit l=>cases l <;> simp [Rows.uptoBulk]
 | _=>simp [Rows.uptoBulk]
theorem bulk_length {H:Type} (l:List (DataW H)):l.length≤Rows.uptoBulkAll l:=by
 induction l with
 | nil=>simp [Rows.uptoBulkAll]
 | cons x r ih=>have:=bulk_one x;simp only [Rows.uptoBulkAll,List.length_cons];omega
theorem bulk_slice {H:Type} (elems spare:List (DataW H)):elems.length≤Rows.uptoBulk (.slice elems spare):=by
 have h1:=bulk_length elems
 simp only [Rows.uptoBulk]
 omega
theorem bulk_bound {H:Type} {l:List (DataW H)} (hk:Rows.uptoSmall H l=true):Rows.uptoBulkAll l≤1048576:=of_decide_eq_true hk
open Go.ChangeShapes Go.WideShapes Go.ChangeAt Go.RowKit Go.Deep
theorem cells_u8':Tryz.prog.cellsOf 5=1:=by kernel_rfl
theorem spot_none_of {w:World} {a:Addr} {v:Value} (h:w.cell? a=some v):a.spot=none:=by
 cases hsp:a.spot with
 | none=>rfl
 | some s =>
  unfold World.cell? at h
  split at h
  ·simp [hsp] at h
  ·cases h
end Go.Proofs.YtakaocenbempmaaGreatDoor
