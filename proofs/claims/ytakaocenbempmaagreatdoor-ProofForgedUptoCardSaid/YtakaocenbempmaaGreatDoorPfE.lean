/-
  Lemmas of a claim, bundle E: XCrcB XAp3.
-/
import Derived.Great.BuildSlice
import Derived.Test.YtakaocenbempmaaGreatDoorPfD
import Derived.Test.YtakaocenbempmaaGreatDoorPfC
set_option linter.unusedVariables false
set_option linter.unusedSimpArgs false
namespace Go.Proofs.YtakaocenbempmaaGreatDoor
open Go.RowKit
theorem make_room (w:World) (m:Nat) (hm:m≤33554432) :
  (Instr.makeSlice 36 (.int .i64 0) (.int .i64 m)).run Tryz.prog w=.ok (.slice (some ⟨w.heap.size,0,none⟩) 0 m) (w.alloc (.cells ((List.replicate m (0:UInt8)).map B).toArray 5 (0,0))):=by
 obtain ⟨i0,hi,hz0,hz1,hz2⟩:=info_parts info_u8
 have hmk:=run_make (P:=Tryz.prog) w 36 5 i0 _ Tryz.underlying36 hi hz0 .i64 .i64 (0:Int) (m:Int) (by omega) (by omega) (by rw [hz2];omega) (by omega)
 have hz:madeCells (Value.int .u8 0).cells (Int.toNat (m:Int) * i0.size)=(((List.replicate m (0:UInt8))).map B).toArray:=by
  rw [hz1,show (Value.int .u8 0).cells=Array.replicate 1 (.int .u8 0) from rfl,madeCells_same 1 _ _ (by omega)]
  simp only [List.map_replicate,Nat.mul_one,Int.toNat_natCast]
  rfl
 rw [hz] at hmk
 simp only [Int.toNat_natCast] at hmk
 exact hmk
theorem owns_form {w:World} {base:Nat} {e:TypeId} {size:Nat} {v:Value} {n:Nat} {xs:List Value} (h:w.ownsRow base e size v n xs):∃ a c,v=.slice a n c:=by
 rcases h.2 with ⟨rfl,h0⟩ | ⟨g,cap,cur,rfl,_⟩
 ·exact ⟨none,0,by rw [h0]⟩
 ·exact ⟨_,_,rfl⟩
theorem owns_room {w:World} {g m:Nat} (h:w.heap[g]?=some (.cells ((List.replicate m (0:UInt8)).map B).toArray 5 (0,0))) (hm:m≤33554432) {base:Nat} (hb:base≤g):w.ownsRow base 5 1 (.slice (some ⟨g,0,none⟩) 0 m) 0 [] :=
 ⟨rfl,.inr ⟨g,m,_,rfl,hb,h,Nat.zero_le _,by simp only [maxLen];omega,by simp,by simp⟩⟩
theorem le4_at {w:World} {g S:Nat} (hS:S < 4294967296) (h:w.heap[g]?=some (.cells #[.int .u8 ((S:Int) % 256),.int .u8 ((S:Int) / 256 % 256),.int .u8 ((S:Int) / 65536 % 256),.int .u8 ((S:Int) / 16777216 % 256)] 5 (0,0))):BytesAt w (.slice (some ⟨g,0,none⟩) 4 4) (leN 4 S):=by
 have e:(#[.int .u8 ((S:Int) % 256),.int .u8 ((S:Int) / 256 % 256),.int .u8 ((S:Int) / 65536 % 256),.int .u8 ((S:Int) / 16777216 % 256)]:Array Value)=((leN 4 S).map B).toArray:=by
  simp only [leN,List.map_cons,List.map_nil,B,UInt8.toNat_ofNat']
  have h1:((S:Int) % 256)=((S % 256 % 2 ^ 8:Nat):Int):=by omega
  have h2:((S:Int) / 256 % 256)=((S / 256 % 256 % 2 ^ 8:Nat):Int):=by omega
  have h3:((S:Int) / 65536 % 256)=((S / 256 / 256 % 256 % 2 ^ 8:Nat):Int):=by omega
  have h4:((S:Int) / 16777216 % 256)=((S / 256 / 256 / 256 % 256 % 2 ^ 8:Nat):Int):=by omega
  rw [h1,h2,h3,h4]
 rw [e] at h
 refine ownB_bytes (l:=leN 4 S) ?_
 exact ⟨(leN_length _ _).symm ▸ rfl,.inr ⟨g,4,_,by rw [leN_length],Nat.zero_le _,h,by rw [leN_length];omega,by simp [maxLen],by simp [leN_length],by simp [leN_length,List.take_of_length_le]⟩⟩
set_option maxRecDepth 100000 in
set_option maxHeartbeats 1000000 in
theorem seal_any {w:World} {v:Value} {l:List UInt8} (hv:BytesAt w v l) (hl:l.length≤16777216) :
  Calls Tryz.prog 94 #[v] w fun e w'=>∃ a c,e=.returned (.slice a (l.length+4) c)∧OwnB w' (.slice a (l.length+4) c) (sealL l)∧(∀ k,(Value.slice a (l.length+4) c).ownBlock=some k→w.heap.size≤k)∧Keeps [] w w':=by
 obtain ⟨a,c,rfl,hc,hm⟩:=hv.form
 unfold maxLen at hm
 have CS:=Lib.hid (sum_any hv)
 obtain ⟨S,hS⟩:∃ S,S=crcL l:=⟨_,rfl⟩
 have hS32:S < 4294967296:=by rw [hS];exact crcL_lt l
 rw [← hS] at CS
 have HS:=Lib.hid hS
 have HV:=Lib.hid hv
 obtain ⟨n,hn⟩:∃ n,n=l.length:=⟨_,rfl⟩
 have HN:=Lib.hid hn
 rw [← hn] at hl hc CS ⊢
 clear hv hS hn
 go_enter Tryz.func94,Tryz.ntmps94
 go_wp2_with fail
 refine CS.out.mono ?_
 rintro e w1 ⟨rfl,hk1⟩
 obtain ⟨m,hm4⟩:∃ m,m=n+4:=⟨_,rfl⟩
 have e4:(n:Int)+4=(m:Int):=by omega
 have e4':IntKind.i64.wrap (m:Int)=(m:Int):=IntWalk.i64_in _ (by omega)
 have hmk:=make_room w1 m (by omega)
 obtain ⟨w2,hw2⟩:∃ w2,w2=w1.alloc (.cells ((List.replicate m (0:UInt8)).map B).toArray 5 (0,0)):=⟨_,rfl⟩
 rw [← hw2] at hmk
 have hk2:Keeps [] w w2:=hk1.trans (G:=[]) (by rw [hw2];exact (Keeps.refl _ _).alloc _) (by simp)
 have ho2:w2.ownsRow w.heap.size 5 1 (.slice (some ⟨w1.heap.size,0,none⟩) 0 m) 0 []:=owns_room (by rw [hw2];exact heap_new_at rfl) (by omega) hk1.size
 obtain ⟨v3,w3,hr3,ho3,hg3⟩:=run_append_bytes ho2 (HV.out.keeps hk2 (by simp)) (by rw [← HN.out];omega) hk2.size 36
 rw [Nat.zero_add,List.nil_append] at ho3
 have hk3:Keeps [] w w3:=hk2.grown hg3 (fun k hk=>.inr (World.ownsRow.lt ho2 k hk).1)
 have HMK:=Lib.hid hmk
 rw [← HN.out] at hr3
 have HAP:=Lib.hid (run_builtin_append hr3)
 have HO3:=Lib.hid ho3
 have HK3:=Lib.hid hk3
 obtain ⟨a3,c3,rfl⟩:=owns_form ho3
 rw [← HN.out] at HAP
 have HM4:=Lib.hid hm4
 clear hmk hr3 ho3 hk3 hw2 hk1 hk2 ho2 hg3 CS hm4
 go_upto_region 4 with (first | (refine wl_makeSlice rfl 36 (.const (.int .i64 0)) (.tmp 9) rfl ?_;refine ⟨_,_,HMK.out,?_⟩;try simp only [zA,zB,zC,zD,zE,zF,zG,zH]) | (refine wl_builtin rfl .append #[.tmp 11,.tmp 12] #[36,36] rfl ?_;simp only [List.map_toArray,List.map_cons,List.map_nil];refine ⟨_,_,HAP.out,?_⟩;try simp only [zA,zB,zC,zD,zE,zF,zG,zH]))
 clear HMK HAP e4 e4'
 obtain ⟨w4,hw4⟩:∃ w4,w4=w3.alloc (.cells #[.int .u8 ((S:Int) % 256),.int .u8 ((S:Int) / 256 % 256),.int .u8 ((S:Int) / 65536 % 256),.int .u8 ((S:Int) / 16777216 % 256)] 5 (0,0)):=⟨_,rfl⟩
 have hk4:Keeps [] w3 w4:=by rw [hw4];exact (Keeps.refl _ _).alloc _
 have hx4:BytesAt w4 (.slice (some ⟨w3.heap.size,0,none⟩) 4 4) (leN 4 S):=le4_at hS32 (by rw [hw4];exact heap_new_at rfl)
 have ho4:w4.ownsRow w.heap.size 5 1 (.slice a3 n c3) n (l.map B):=by
  have h:=HO3.out
  rw [← HN.out] at h
  exact ownsRow_keep h (fun k hk=>hk4.block k (World.ownsRow.lt h k hk).2 (by simp))
 obtain ⟨v5,w5,hr5,ho5,hg5⟩:=run_append_bytes ho4 hx4 (by rw [leN_length];omega) (Nat.le_trans HK3.out.size hk4.size) 36
 rw [leN_length] at ho5
 obtain ⟨a5,c5,rfl⟩:=owns_form ho5
 have hk5:Keeps [] w w5:=(HK3.out.trans (G:=[]) hk4 (by simp)).grown hg5 (fun k hk=>.inr (World.ownsRow.lt ho4 k hk).1)
 rw [hw4] at hr5
 have HAQ:=Lib.hid (run_builtin_append hr5)
 have HO5:=Lib.hid ho5
 have HK5:=Lib.hid hk5
 clear hw4 hk4 hx4 ho4 hr5 ho5 hg5 hk5 hS32
 go_wp2_with (first | (refine wl_builtin rfl .append #[.tmp 14,.tmp 26] #[36,36] rfl ?_;simp only [List.map_toArray,List.map_cons,List.map_nil];refine ⟨_,_,HAQ.out,?_⟩;try simp only [zA,zB,zC,zD,zE,zF,zG,zH]))
 go_ret
 have ho:=HO5.out
 exact ⟨_,_,rfl,⟨by rw [List.length_map,sealL_length,Nat.mul_one],by
  have:=(ownsRow_base ho).2
  rw [sealL_length,sealL,← HS.out,List.map_append,← HN.out]
  exact this⟩,fun k hk=>(World.ownsRow.lt ho k hk).1,HK5.out⟩
theorem byte_eq {x:UInt8} {s:Nat} (hs:s < 256):x=UInt8.ofNat s↔x.toNat=s:=by
 constructor
 ·intro h;rw [h,UInt8.toNat_ofNat'];omega
 ·intro h;rw [← h];simp
theorem drop_four {l:List UInt8} {m:Nat} (h:l.length=m+4):∃ x0 x1 x2 x3,l.drop m=[x0,x1,x2,x3]∧l[m]?=some x0∧l[m+1]?=some x1∧l[m+2]?=some x2∧l[m+3]?=some x3:=by
 have hl:(l.drop m).length=4:=by rw [List.length_drop];omega
 match hd:l.drop m,hl with
 | [x0,x1,x2,x3],_ =>
  refine ⟨x0,x1,x2,x3,rfl,?_,?_,?_,?_⟩
  ·rw [show m=m+0 from rfl,← List.getElem?_drop,hd];rfl
  ·rw [← List.getElem?_drop,hd];rfl
  ·rw [← List.getElem?_drop,hd];rfl
  ·rw [← List.getElem?_drop,hd];rfl
theorem whole_four {l:List UInt8} {m S:Nat} (h:l.length=m+4) (hS:S=crcL (l.take m)) (h32:S < 4294967296) {x0 x1 x2 x3:UInt8} (hd:l.drop m=[x0,x1,x2,x3]) :
  wholeL l=(decide (x0.toNat=S % 256) && (decide (x1.toNat=S / 256 % 256) && (decide (x2.toNat=S / 65536 % 256) && decide (x3.toNat=S / 16777216 % 256)))):=by
 unfold wholeL
 rw [h,Nat.add_sub_cancel,hd,← hS]
 have d:decide (4≤m+4)=true:=by simp
 rw [d,Bool.true_and]
 have e2:S / 256 / 256=S / 65536:=by omega
 have e3:S / 65536 / 256=S / 16777216:=by omega
 simp only [leN,e2,e3]
 rw [Bool.eq_iff_iff]
 simp only [beq_iff_eq,List.cons.injEq,and_true,Bool.and_eq_true,decide_eq_true_eq]
 rw [byte_eq (by omega),byte_eq (by omega),byte_eq (by omega),byte_eq (by omega)]
theorem BytesAt.upto {w:World} {a:Option Addr} {c:Nat} {l:List UInt8} (h:BytesAt w (.slice a l.length c) l) (m:Nat) (hm:m≤l.length):BytesAt w (.slice a m c) (l.take m):=by
 rcases h with ⟨h0,a',c',he,hc⟩ | ⟨g,o,cap,he,h1,h2,h3,h4⟩
 ·subst h0
  simp only [List.length_nil] at hm he
  have hm0:m=0:=by omega
  subst hm0
  exact .inl ⟨rfl,a',c',he,hc⟩
 ·have e:(l.take m).length=m:=by rw [List.length_take];omega
  simp only [Value.slice.injEq] at he
  refine .inr ⟨g,o,cap,by rw [e,he.1,he.2.2],by omega,h2,h3,fun j u hu=>h4 j u ?_⟩
  rw [List.map_take,List.getElem?_take] at hu
  split at hu
  ·exact hu
  ·cases hu
set_option maxRecDepth 100000 in
set_option maxHeartbeats 1000000 in
theorem whole_any {w:World} {v:Value} {l:List UInt8} (hv:BytesAt w v l) :
  Calls Tryz.prog 107 #[v] w fun e w'=>e=.returned (.bool (wholeL l))∧Keeps [] w w':=by
 obtain ⟨a,c,rfl,hc,hm⟩:=hv.form
 unfold maxLen at hm
 obtain ⟨n,hn⟩:∃ n,n=l.length:=⟨_,rfl⟩
 by_cases h4:n < 4
 ·have hw:wholeL l=false:=by
   unfold wholeL
   rw [decide_eq_false (by omega),Bool.false_and]
  have n1:(n:Int) - 4 < 0:=by omega
  rw [hw,← hn]
  rw [← hn] at hc
  clear hv hn hw
  go_enter Tryz.func107,Tryz.ntmps107
  go_wp2_with fail
  go_ret
  exact ⟨rfl,Keeps.refl _ _⟩
 obtain ⟨m,hm4⟩:∃ m,n=m+4:=⟨n - 4,by omega⟩
 obtain ⟨x0,x1,x2,x3,hd,hx0,hx1,hx2,hx3⟩:=drop_four (l:=l) (m:=m) (by omega)
 have CS:=Lib.hid (sum_any (hv.upto m (by omega)))
 obtain ⟨S,hS⟩:∃ S,S=crcL (l.take m):=⟨_,rfl⟩
 have hS32:S < 4294967296:=by rw [hS];exact crcL_lt _
 rw [← hS] at CS
 have hw:=whole_four (hn ▸ hm4) hS hS32 hd
 obtain ⟨gb,ob,rfl,hgb,hrb⟩:=hv.at (by omega)
 have hbyte:∀ wr,Keeps [] w wr→∀ k x,l[k]?=some x→wr.cell? ⟨gb,ob+k,none⟩=some (.int .u8 x.toNat):=fun wr hk k x hx=>range_byte hrb (hk.block gb hgb (by simp)) hx
 obtain ⟨y0,hy0⟩:∃ y,y=x0.toNat:=⟨_,rfl⟩
 obtain ⟨y1,hy1⟩:∃ y,y=x1.toNat:=⟨_,rfl⟩
 obtain ⟨y2,hy2⟩:∃ y,y=x2.toNat:=⟨_,rfl⟩
 obtain ⟨y3,hy3⟩:∃ y,y=x3.toNat:=⟨_,rfl⟩
 obtain ⟨s0,hs0⟩:∃ s,s=S % 256:=⟨_,rfl⟩
 obtain ⟨s1,hs1⟩:∃ s,s=S / 256 % 256:=⟨_,rfl⟩
 obtain ⟨s2,hs2⟩:∃ s,s=S / 65536 % 256:=⟨_,rfl⟩
 obtain ⟨s3,hs3⟩:∃ s,s=S / 16777216 % 256:=⟨_,rfl⟩
 have e0:(S:Int) % 256=(s0:Int):=by omega
 have e1:(S:Int) / 256 % 256=(s1:Int):=by omega
 have e2:(S:Int) / 65536 % 256=(s2:Int):=by omega
 have e3:(S:Int) / 16777216 % 256=(s3:Int):=by omega
 rw [← hy0,← hy1,← hy2,← hy3,← hs0,← hs1,← hs2,← hs3] at hw
 have n4:¬ (n:Int) - 4 < 0:=by omega
 have nm:(n:Int) - 4=(m:Int):=by omega
 have hcells:∀ wr,Keeps [] w wr→wr.cell? ⟨gb,ob+m,none⟩=some (.int .u8 (y0:Int))∧wr.cell? ⟨gb,ob+(m+1),none⟩=some (.int .u8 (y1:Int))∧wr.cell? ⟨gb,ob+(m+2),none⟩=some (.int .u8 (y2:Int))∧wr.cell? ⟨gb,ob+(m+3),none⟩=some (.int .u8 (y3:Int)):=fun wr hk =>
  ⟨by rw [hy0];exact hbyte wr hk m x0 hx0,by rw [hy1];exact hbyte wr hk _ x1 hx1,by rw [hy2];exact hbyte wr hk _ x2 hx2,by rw [hy3];exact hbyte wr hk _ x3 hx3⟩
 have HC:=Lib.hid hcells
 have HW:=Lib.hid hw
 have HM:=Lib.hid hm4
 rw [← hn] at hc ⊢
 have ln:(n:Int)≤9223372036854775807:=by omega
 have m0:(0:Int)≤(m:Int):=by omega
 have m1:(m:Int) < (n:Int):=by omega
 have m2:(m:Int)+1 < (n:Int):=by omega
 have m3:(m:Int)+2 < (n:Int):=by omega
 have m4:(m:Int)+3 < (n:Int):=by omega
 have mc:(m:Int)≤(c:Int):=by omega
 clear hv hn hS hS32 hw hcells hbyte hd hx0 hx1 hx2 hx3 hy0 hy1 hy2 hy3 hs0 hs1 hs2 hs3 hrb hgb hm4
 go_enter Tryz.func107,Tryz.ntmps107
 go_upto_region 5 with fail
 refine CS.out.mono ?_
 rintro e w1 ⟨rfl,hk1⟩
 obtain ⟨c0,c1,c2,c3⟩:=HC.out w1 hk1
 have HK:=Lib.hid hk1
 have HN4:=Lib.hid n4
 clear hk1 HC CS
 by_cases t0:y0=s0
 ·subst t0
  by_cases t1:y1=s1
  ·subst t1
   by_cases t2:y2=s2
   ·subst t2
    by_cases t3:y3=s3
    ·subst t3
     have hw:=Lib.hid (show wholeL l=true by rw [HW.out];simp)
     go_wp2_with fail
     go_ret
     exact ⟨by rw [hw.out];rfl,HK.out⟩
    ·have hw:=Lib.hid (show wholeL l=false by rw [HW.out];simp [t3])
     have f3:¬ (y3:Int)=(s3:Int):=by omega
     go_wp2_with fail
     go_ret
     exact ⟨by rw [hw.out,← beq_eq_false_iff_ne.mpr f3];rfl,HK.out⟩
   ·have hw:=Lib.hid (show wholeL l=false by rw [HW.out];simp [t2])
    have f2:¬ (y2:Int)=(s2:Int):=by omega
    go_wp2_with fail
    go_ret
    exact ⟨by rw [hw.out];rfl,HK.out⟩
  ·have hw:=Lib.hid (show wholeL l=false by rw [HW.out];simp [t1])
   have f1:¬ (y1:Int)=(s1:Int):=by omega
   go_wp2_with fail
   go_ret
   exact ⟨by rw [hw.out];rfl,HK.out⟩
 ·have hw:=Lib.hid (show wholeL l=false by rw [HW.out];simp [t0])
  have f0:¬ (y0:Int)=(s0:Int):=by omega
  go_wp2_with fail
  go_ret
  exact ⟨by rw [hw.out];rfl,HK.out⟩
open Go.RowKit
theorem run_buildSlice_b1 (w:World) (x:Int):(Instr.buildSlice 36 1 #[(0,.int .u8 x)]).run Tryz.prog w=.ok (.slice (some ⟨w.heap.size,0,none⟩) 1 1) (w.alloc (.cells #[.int .u8 x] 5 (0,0))):=by
 obtain ⟨i,hi,h1,h2,h3⟩:=info_parts info_u8
 refine run_buildSlice w _ _ _ _ _ i (.int .u8 0) Tryz.underlying36 hi h1 (by rw [h2];omega) (by rw [h2];omega) ?_
 rw [h2]
 kernel_rfl
theorem step_app1 {ops:Array Oper} {o:Oper} {a:Act} {w w0:World} {K:Act→World→Prop} {Q:Exit→Act→World→Prop} {E:Prop} (hgd:o.guard=none) (s x:Operand) (ho:o.op=.call { callee:=.builtin .append,args:=#[s,x],argTypes:=#[36,36] })
  (base:Nat) (v:Value) (n:Nat) (l:List UInt8) (hs:a.eval s=v) (hown:w0.ownsRow base 5 1 v n (l.map B)) (b:UInt8) (hx:a.eval x=.slice (some ⟨w0.heap.size,0,none⟩) 1 1) (hw:w=w0.alloc (.cells #[B b] 5 (0,0))) (hb:n+1≤1099511627776) (hbase:base≤w0.heap.size)
  (h:∀ v' w',w'.ownsRow base 5 1 v' (n+1) ((l++[b]).map B)→(∀ (F:List Nat) (wa:World),Keeps F wa w0→wa.heap.size≤base→Keeps F wa w')→(∀ k,k < w0.heap.size→v.ownBlock≠some k→w'.heap[k]?=w0.heap[k]?)→K (a.put o.dst v') w') :
  if Region.wanted o (yielded ops a.tmps)=true then Oper.wp Tryz.prog o a w K Q else E:=by
 subst hw
 have hx1:BytesAt (w0.alloc (.cells #[B b] 5 (0,0))) (.slice (some ⟨w0.heap.size,0,none⟩) 1 1) [b]:=.inr ⟨_,0,1,rfl,by simp,by simp [maxLen],by simp,rangeAt_all (t:=5) (fr:=(0,0)) (heap_new_at rfl)⟩
 refine step_append_bytes hgd s x ho base v n _ hs (hown.alloc _) _ [b] hx hx1 hb (by simp;omega) (fun v' w' h1 h2=>?_)
 refine h v' w' (by rw [List.map_append];exact h1) (fun F wa hk hba=>(hk.alloc _).grown h2 (fun k hk=>.inr (Nat.le_trans hba (World.ownsRow.lt hown k hk).1))) (fun k hk hne=>?_)
 rw [h2.block k (by simp;omega) (fun e=>hne e.symm)]
 exact heap_old_at hk
end Go.Proofs.YtakaocenbempmaaGreatDoor
