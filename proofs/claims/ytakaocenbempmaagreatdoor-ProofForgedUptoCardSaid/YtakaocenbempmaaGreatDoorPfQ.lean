/-
  Lemmas of a claim, bundle Q: XAp2.
-/
import Derived.Test.YtakaocenbempmaaGreatDoorPfC
import Derived.Test.YtakaocenbempmaaGreatDoorPfI
set_option linter.unusedVariables false
set_option linter.unusedSimpArgs false
namespace Go.Proofs.YtakaocenbempmaaGreatDoor
open Go.RowKit
theorem wl_appD {ops:Array Oper} {rest:List Oper} {o:Oper} {a:Act} {w w0:World} {Q:Exit→Act→World→Prop} (hgd:o.guard=none) (s x:Operand) (ho:o.op=.call { callee:=.builtin .append,args:=#[s,x],argTypes:=#[55,55] })
  (base:Nat) (v:Value) (n:Nat) (l:List (List UInt8)) (hs:a.eval s=v) (hown:w0.ownsRow base 88 32 v n (sumCells l)) (d:List UInt8) (hd:d.length=32) (hx:a.eval x=.slice (some ⟨w0.heap.size,0,none⟩) 1 1) (hw:w=w0.alloc (.cells (d.map B).toArray 88 (0,0))) (hb:n+1≤1073741824) (hbase:base≤w0.heap.size)
  (h:∀ v' w',w'.ownsRow base 88 32 v' (n+1) (sumCells (l++[d]))→(∀ (F:List Nat) (wa:World),Keeps F wa w0→wa.heap.size≤base→Keeps F wa w')→(∀ k,k < w0.heap.size→v.ownBlock≠some k→w'.heap[k]?=w0.heap[k]?)→wpList Tryz.prog ops Q rest (a.put o.dst v') w'):wpList Tryz.prog ops Q (o :: rest) a w:=by
 subst hw
 obtain ⟨i0,hi0,hz0,hz1,hz2⟩:=info_parts info_digest
 have l4:(d.map B).length=1 * 32:=by rw [List.length_map,hd]
 have l5:(w0.alloc (.cells (d.map B).toArray 88 (0,0))).heap.size=w0.heap.size+1:=by simp
 have l2:∀ j u,(d.map B)[j]?=some u→(w0.alloc (.cells (d.map B).toArray 88 (0,0))).cell? ((⟨w0.heap.size,0,none⟩:Addr).add j)=some u:=World.news_of_block (cs:=(d.map B).toArray) (t:=88) (fr:=(0,0)) (heap_new_at rfl)
 refine wpList_append_lies _ hgd s x 55 ho base 88 i0 (.agg (Array.replicate 32 (.int .u8 0))) 32 32 Tryz.underlying55 hi0 hz0 hz1 hz2 (by simp [Value.cells]) (by omega) v n (sumCells l) hs (hown.alloc _) ⟨w0.heap.size,0,none⟩ 1 1 (d.map B) hx l4 l2 (B_one d) (by omega) (by simp only [maxLen];omega) (by omega) (by rw [l5];omega) (w0.heap.size+1) l5 ?_
 intro gq cap wn h1 h2 h3 h4
 refine h _ wn ?_ (fun F wa hk hba=>(hk.alloc _).grown h2 (fun k hk=>.inr (Nat.le_trans hba (World.ownsRow.lt hown k hk).1))) (fun k hk hne=>by rw [h2.block k (by simp;omega) (fun e=>hne e.symm)];exact heap_old_at hk)
 have e:sumCells (l++[d])=sumCells l++d.map B:=by simp [sumCells]
 rw [e]
 exact h1
end Go.Proofs.YtakaocenbempmaaGreatDoor
