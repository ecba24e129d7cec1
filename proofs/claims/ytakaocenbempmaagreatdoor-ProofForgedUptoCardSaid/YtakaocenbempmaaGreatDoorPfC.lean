/-
  Lemmas of a claim, bundle C: XApp XAp1 XSlc.
-/
import Derived.Deep.Upon
import Derived.Test.YtakaocenbempmaaGreatDoorPfB
set_option linter.unusedVariables false
set_option linter.unusedSimpArgs false
namespace Go.Proofs.YtakaocenbempmaaGreatDoor
open Go.RowKit
theorem run_append_none {w:World} {base:Nat} {v:Value} {n c:Nat} {xs:List Value} (hown:w.ownsRow base 5 1 v n xs) (ty:TypeId) :
  (Builtin.append_ #[36,36] ty #[v,.slice none 0 c]).run Tryz.prog w=.ok v w:=by
 obtain ⟨i0,hi0,hz0,hz1,hz2⟩:=info_parts info_u8
 rcases hown.2 with ⟨rfl,rfl⟩ | ⟨g,cap,cur,rfl,_,_,h,_⟩
 ·simp [Builtin.append_,run_underlying Tryz.underlying36,sizeOf,typeInfo,hi0,storeCells,Builtin.lenOf,Builtin.firstCells,hz1]
 ·simp [Builtin.append_,run_underlying Tryz.underlying36,sizeOf,typeInfo,hi0,h,storeCells,Builtin.lenOf,Builtin.firstCells,hz1]
theorem run_append_bytes {w:World} {base:Nat} {v:Value} {n:Nat} {xs:List Value} (hown:w.ownsRow base 5 1 v n xs) {x:Value} {l:List UInt8} (hx:BytesAt w x l) (hb:n+l.length≤1099511627776) (hbase:base≤w.heap.size) (ty:TypeId) :
  ∃ v' w',(Builtin.append_ #[36,36] ty #[v,x]).run Tryz.prog w=.ok v' w'∧w'.ownsRow base 5 1 v' (n+l.length) (xs++l.map B)∧w.grownBy w' v.ownBlock:=by
 obtain ⟨i0,hi0,hz0,hz1,hz2⟩:=info_parts info_u8
 rcases hx with ⟨rfl,a,c,rfl,_⟩ | ⟨g,o,cap,rfl,h1,h2,h3,h4⟩
 ·cases a with
  | none=>exact ⟨v,w,run_append_none hown ty,by simpa using hown,⟨rfl,rfl,rfl,Nat.le_refl _,fun _ _ _=>rfl⟩⟩
  | some a =>
   obtain ⟨v',w',hr,ho,hg,_⟩:=run_append_own_at (P:=Tryz.prog) w base 36 ty 5 i0 (.int .u8 0) 1 1 Tryz.underlying36 hi0 hz0 hz1 hz2 rfl (by omega) v n xs hown a 0 c [] rfl (by simp) (by simp) (by simp only [maxLen];simp at hb;omega) (by simp at hb;omega) hbase
   exact ⟨v',w',hr,by simpa using ho,hg⟩
 ·obtain ⟨v',w',hr,ho,hg,_⟩:=run_append_own_at (P:=Tryz.prog) w base 36 ty 5 i0 (.int .u8 0) 1 1 Tryz.underlying36 hi0 hz0 hz1 hz2 rfl (by omega) v n xs hown ⟨g,o,none⟩ l.length cap (l.map B) (by simp) (fun j u hu=>by rw [Addr.add_mid];exact h4 j u hu) (B_one l) (by simp only [maxLen];omega) (by omega) hbase
  exact ⟨v',w',hr,ho,hg⟩
theorem wp_append_bytes {o:Oper} {a:Act} {w:World} {K:Act→World→Prop} {Q:Exit→Act→World→Prop} (s x:Operand) (ho:o.op=.call { callee:=.builtin .append,args:=#[s,x],argTypes:=#[36,36] })
  (base:Nat) (v:Value) (n:Nat) (xs:List Value) (hs:a.eval s=v) (hown:w.ownsRow base 5 1 v n xs) (xv:Value) (l:List UInt8) (hxv:a.eval x=xv) (hx:BytesAt w xv l) (hb:n+l.length≤1099511627776) (hbase:base≤w.heap.size)
  (h:∀ v' w',w'.ownsRow base 5 1 v' (n+l.length) (xs++l.map B)→w.grownBy w' v.ownBlock→K (a.put o.dst v') w'):o.wp Tryz.prog a w K Q:=by
 obtain ⟨v',w',hr,h1,h2⟩:=run_append_bytes hown hx hb hbase o.type
 unfold Oper.wp execOp
 simp only [ho,resolve,invoke,builtin,Sem.run_bind,Sem.run_pure,Result.andThen_ok,List.map_toArray,List.map_cons,List.map_nil,hs,hxv,hr]
 exact h v' w' h1 h2
theorem wpList_append_bytes {ops:Array Oper} {rest:List Oper} {o:Oper} {a:Act} {w:World} {Q:Exit→Act→World→Prop} (hgd:o.guard=none) (s x:Operand) (ho:o.op=.call { callee:=.builtin .append,args:=#[s,x],argTypes:=#[36,36] })
  (base:Nat) (v:Value) (n:Nat) (xs:List Value) (hs:a.eval s=v) (hown:w.ownsRow base 5 1 v n xs) (xv:Value) (l:List UInt8) (hxv:a.eval x=xv) (hx:BytesAt w xv l) (hb:n+l.length≤1099511627776) (hbase:base≤w.heap.size)
  (h:∀ v' w',w'.ownsRow base 5 1 v' (n+l.length) (xs++l.map B)→w.grownBy w' v.ownBlock→wpList Tryz.prog ops Q rest (a.put o.dst v') w'):wpList Tryz.prog ops Q (o :: rest) a w :=
 wpList_plain hgd fun _ hK=>wp_append_bytes s x ho base v n xs hs hown xv l hxv hx hb hbase fun v' w' h1 h2=>hK _ _ (h v' w' h1 h2)
theorem step_append_bytes {ops:Array Oper} {o:Oper} {a:Act} {w:World} {K:Act→World→Prop} {Q:Exit→Act→World→Prop} {E:Prop} (hgd:o.guard=none) (s x:Operand) (ho:o.op=.call { callee:=.builtin .append,args:=#[s,x],argTypes:=#[36,36] })
  (base:Nat) (v:Value) (n:Nat) (xs:List Value) (hs:a.eval s=v) (hown:w.ownsRow base 5 1 v n xs) (xv:Value) (l:List UInt8) (hxv:a.eval x=xv) (hx:BytesAt w xv l) (hb:n+l.length≤1099511627776) (hbase:base≤w.heap.size)
  (h:∀ v' w',w'.ownsRow base 5 1 v' (n+l.length) (xs++l.map B)→w.grownBy w' v.ownBlock→K (a.put o.dst v') w') :
  if Region.wanted o (yielded ops a.tmps)=true then Oper.wp Tryz.prog o a w K Q else E:=by
 have hw:Region.wanted o (yielded ops a.tmps)=true:=by simp [Region.wanted,hgd]
 rw [if_pos hw]
 exact wp_append_bytes s x ho base v n xs hs hown xv l hxv hx hb hbase h
theorem step_copy {ops:Array Oper} {o:Oper} {a:Act} {w w':World} {K:Act→World→Prop} {Q:Exit→Act→World→Prop} {E:Prop} (hgd:o.guard=none) (d s:Operand) (ho:o.op=.call { callee:=.builtin .copy,args:=#[d,s],argTypes:=#[36,36] })
  (dv sv v:Value) (hd:a.eval d=dv) (hs:a.eval s=sv) (hr:∀ ty,(Builtin.copy_ #[36,36] ty #[dv,sv]).run Tryz.prog w=.ok v w') (h:K (a.put o.dst v) w') :
  if Region.wanted o (yielded ops a.tmps)=true then Oper.wp Tryz.prog o a w K Q else E:=by
 have hw:Region.wanted o (yielded ops a.tmps)=true:=by simp [Region.wanted,hgd]
 rw [if_pos hw]
 unfold Oper.wp execOp
 simp only [ho,resolve,invoke,builtin,Sem.run_bind,Sem.run_pure,Result.andThen_ok,List.map_toArray,List.map_cons,List.map_nil,hd,hs,hr]
 exact h
open Go.RowKit
def sLen:Value→Nat
 | .slice _ n _=>n
 | _=>0
theorem own_form {w:World} {base:Nat} {e:TypeId} {size:Nat} {v:Value} {n:Nat} {xs:List Value} (h:w.ownsRow base e size v n xs):∃ a c,v=.slice a n c:=by
 rcases h.2 with ⟨rfl,rfl⟩ | ⟨g,cap,cur,rfl,_⟩
 ·exact ⟨_,_,rfl⟩
 ·exact ⟨_,_,rfl⟩
theorem wl_app1 {ops:Array Oper} {rest:List Oper} {o:Oper} {a:Act} {w w0:World} {Q:Exit→Act→World→Prop} (hgd:o.guard=none) (s x:Operand) (ho:o.op=.call { callee:=.builtin .append,args:=#[s,x],argTypes:=#[36,36] })
  (base:Nat) (v:Value) (n:Nat) (l:List UInt8) (hs:a.eval s=v) (hown:w0.ownsRow base 5 1 v n (l.map B)) (b:UInt8) (hx:a.eval x=.slice (some ⟨w0.heap.size,0,none⟩) 1 1) (hw:w=w0.alloc (.cells #[B b] 5 (0,0))) (hb:n+1≤1099511627776) (hbase:base≤w0.heap.size)
  (h:∀ v' w',w'.ownsRow base 5 1 v' (n+1) ((l++[b]).map B)→(∀ (F:List Nat) (wa:World),Keeps F wa w0→wa.heap.size≤base→Keeps F wa w')→(∀ k,k < w0.heap.size→v.ownBlock≠some k→w'.heap[k]?=w0.heap[k]?)→wpList Tryz.prog ops Q rest (a.put o.dst v') w'):wpList Tryz.prog ops Q (o :: rest) a w:=by
 subst hw
 have hx1:BytesAt (w0.alloc (.cells #[B b] 5 (0,0))) (.slice (some ⟨w0.heap.size,0,none⟩) 1 1) [b]:=.inr ⟨_,0,1,rfl,by simp,by simp [maxLen],by simp,rangeAt_all (t:=5) (fr:=(0,0)) (heap_new_at rfl)⟩
 refine wpList_append_bytes hgd s x ho base v n _ hs (hown.alloc _) _ [b] hx hx1 hb (by simp;omega) (fun v' w' h1 h2=>?_)
 refine h v' w' (by rw [List.map_append];exact h1) (fun F wa hk hba=>(hk.alloc _).grown h2 (fun k hk=>.inr (Nat.le_trans hba (World.ownsRow.lt hown k hk).1))) (fun k hk hne=>?_)
 rw [h2.block k (by simp;omega) (fun e=>hne e.symm)]
 exact heap_old_at hk
open Go.RowKit
theorem sl_add0 (a:Addr):a.add 0=a:=by unfold Addr.add;simp
theorem sl_run_slice_to (w:World) (a:Option Addr) (len cap n:Nat) (hn:n≤cap) :
  (Instr.sliceAt 36 (.slice a len cap) none (some (.int .i64 n)) (some (.int .i64 n))).run Tryz.prog w=.ok (.slice a n n) w:=by
 have h0:(0:Int)≤(n:Int):=by omega
 have h1:(n:Int)≤(cap:Int):=by omega
 simp [Instr.sliceAt,Instr.slice,run_underlying Tryz.underlying36,Instr.sliceBounds,run_sliceBound,h0,h1,sizeOf_u8,sl_add0,Result.andThen]
 try (intro _;cases a <;> simp [sl_add0])
theorem sl_run_slice_from (w:World) (a:Option Addr) (len cap n:Nat) (hn:n≤len) (hc:len≤cap) :
  (Instr.sliceAt 36 (.slice a len cap) (some (.int .i64 n)) none none).run Tryz.prog w=.ok (sliced a n len cap 1) w:=by
 have h0:(0:Int)≤(n:Int):=by omega
 have h1:(n:Int)≤(len:Int):=by omega
 have h2:(len:Int)≤(cap:Int):=by omega
 simp [Instr.sliceAt,Instr.slice,run_underlying Tryz.underlying36,Instr.sliceBounds,run_sliceBound,h0,h1,h2,sizeOf_u8,Result.andThen,sliced]
theorem sl_bytes_back {w:World} {a:Option Addr} {cap n:Nat} {l:List UInt8} (h:BytesAt w (.slice a l.length cap) l) (hn:n≤l.length) (hm:cap≤maxLen):BytesAt w (sliced a n l.length cap 1) (l.drop n):=by
 have hl:(l.drop n).length=l.length - n:=List.length_drop
 by_cases e:n=l.length
 ·subst e
  rw [List.drop_length]
  exact .inl ⟨rfl,_,cap - l.length,by unfold sliced;rw [Nat.sub_self],by omega⟩
 ·rcases h with ⟨rfl,a',c',hv,hc⟩ | ⟨g,o,c',hv,h1,h2,h3,h4⟩
  ·simp at hn e;omega
  ·injection hv with e1 _ e3
   subst e1 e3
   have hne:cap≠n:=by omega
   refine .inr ⟨g,o+n,cap - n,?_,by omega,by omega,h3,fun j u hu=>?_⟩
   ·unfold sliced
    rw [if_neg hne,hl,Nat.mul_one]
    simp [Addr.add_mid]
   ·rw [Nat.add_assoc]
    refine h4 (n+j) u ?_
    rw [List.getElem?_map,List.getElem?_drop] at hu
    rw [List.getElem?_map]
    exact hu
theorem sl_add_block (x:Addr) (k:Nat):(x.add k).block=x.block:=by unfold Addr.add;split <;> rfl
theorem sl_back_block {a:Option Addr} {len cap n k:Nat} (h:(sliced a n len cap 1).elemBlock=some k):(Value.slice a len cap).elemBlock=some k:=by
 unfold sliced at h
 cases a with
 | none=>simp [Value.elemBlock] at h
 | some x =>
  by_cases hl:n < len
  ·obtain ⟨d,hd⟩:∃ d,len - n=d+1:=⟨len - n - 1,by omega⟩
   obtain ⟨len,rfl⟩:∃ m,len=m+1:=⟨len - 1,by omega⟩
   rw [hd] at h
   simp only [Value.elemBlock] at h ⊢
   split at h
   ·rename_i e
    injection e with e1 e2
    split at e1
    ·injection e1 with e1
     subst e1
     exact h
    ·injection e1 with e1
     subst e1
     simpa [sl_add_block] using h
   ·cases h
  ·rw [show len - n=0 from by omega] at h
   split at h <;> simp [Value.elemBlock] at h
theorem sl_run_head (w:World) (a:Option Addr) (len cap n:Nat) (hn:n≤cap) :
  (Instr.sliceAt 36 (.slice a len cap) none (some (.int .i64 n)) none).run Tryz.prog w=.ok (.slice a n cap) w:=by
 have h0:(0:Int)≤(n:Int):=by omega
 have h1:(n:Int)≤(cap:Int):=by omega
 simp [Instr.sliceAt,Instr.slice,run_underlying Tryz.underlying36,Instr.sliceBounds,run_sliceBound,h0,h1,sizeOf_u8,sl_add0,Result.andThen]
 try (intro _;cases a <;> simp [sl_add0])
theorem sl_from {w:World} {a:Option Addr} {cap n:Nat} {l:List UInt8} (h:BytesAt w (.slice a l.length cap) l) (hn:n≤l.length) (hc:l.length≤cap) (hm:cap≤maxLen) {F:Nat→Prop} (hF:∀ k,(Value.slice a l.length cap).elemBlock=some k→F k) :
  ∃ a' c',(∀ wx,(Instr.sliceAt 36 (.slice a l.length cap) (some (.int .i64 n)) none none).run Tryz.prog wx=.ok (.slice a' (l.drop n).length c') wx)∧BytesAt w (.slice a' (l.drop n).length c') (l.drop n)∧c'≤maxLen∧∀ k,(Value.slice a' (l.drop n).length c').elemBlock=some k→F k:=by
 have hb:=sl_bytes_back h hn hm
 obtain ⟨a',c',e,_,hm'⟩:=hb.form
 refine ⟨a',c',fun wx=>?_,e ▸ hb,hm',fun k hk=>hF k (sl_back_block (e ▸ hk))⟩
 rw [← e]
 exact sl_run_slice_from wx a l.length cap n hn hc
end Go.Proofs.YtakaocenbempmaaGreatDoor
