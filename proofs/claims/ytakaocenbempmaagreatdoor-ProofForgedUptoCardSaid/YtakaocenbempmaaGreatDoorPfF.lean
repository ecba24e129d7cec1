/-
  Lemmas of a claim, bundle F: XFrA XShA XR1A.
-/
import Derived.Great.Walk
import Derived.Test.YtakaocenbempmaaGreatDoorPfA
import Derived.Test.YtakaocenbempmaaGreatDoorPfE
import Derived.Test.YtakaocenbempmaaGreatDoorPfB
import Derived.Test.YtakaocenbempmaaGreatDoorPfC
set_option linter.unusedVariables false
set_option linter.unusedSimpArgs false
namespace Go.Proofs.YtakaocenbempmaaGreatDoor
open Go.RowKit
def Blk (w:World) (g:Nat) (ty:TypeId) (l:List UInt8):Prop:=w.heap[g]?=some (.cells (l.map B).toArray ty (0,0))
theorem Blk.cell {w:World} {g:Nat} {ty:TypeId} {l:List UInt8} (h:Blk w g ty l) (i:Nat) (hi:i < l.length):w.cell? ⟨g,i,none⟩=some (B l[i]):=by
 rw [cell_of_row w g i _ _ _ h]
 simp [hi]
theorem Blk.free {w:World} {g:Nat} {ty:TypeId} {l:List UInt8} (h:Blk w g ty l) (i:Nat):w.frozen? ⟨g,i,none⟩=false:=frozen_of_row w g i _ _ h
theorem Blk.lt {w:World} {g:Nat} {ty:TypeId} {l:List UInt8} (h:Blk w g ty l):g < w.heap.size:=lt_of_heap h
theorem Blk.set {w:World} {g:Nat} {ty:TypeId} {l:List UInt8} (h:Blk w g ty l) (i:Nat) (x:UInt8):Blk (w.setCell ⟨g,i,none⟩ (B x)) g ty (l.set i x):=by
 have:=heap_setCell_same w g i _ ty (B x) h
 unfold Blk
 rw [this]
 simp
theorem Blk.keeps {w w':World} {g:Nat} {ty:TypeId} {l:List UInt8} {F:List Nat} (h:Blk w g ty l) (hk:Keeps F w w') (hg:g ∉ F):Blk w' g ty l:=(hk.block g h.lt hg).trans h
def over (l:List UInt8) (o:Nat) (xs:List UInt8):List UInt8:=l.take o++xs++l.drop (o+xs.length)
theorem over_length {l:List UInt8} {o:Nat} {xs:List UInt8} (h:o+xs.length≤l.length):(over l o xs).length=l.length:=by
 simp [over];omega
theorem over_nil (l:List UInt8) (o:Nat):over l o []=l:=by simp [over]
theorem over_snoc {l:List UInt8} {o:Nat} {xs:List UInt8} {x:UInt8} (h:o+xs.length < l.length):(over l o xs).set (o+xs.length) x=over l o (xs++[x]):=by
 unfold over
 have e1:(l.take o++xs).length=o+xs.length:=by rw [List.length_append,List.length_take];omega
 rw [List.set_append_right _ _ (by omega),e1,Nat.sub_self]
 rw [List.drop_eq_getElem_cons h,List.set_cons_zero]
 simp [Nat.add_assoc]
theorem leN_snoc:∀ n v,leN (n+1) v=leN n v++[UInt8.ofNat (v / 256 ^ n % 256)]
 | 0,v=>by simp [leN]
 | n+1,v=>by
  rw [leN,leN_snoc n (v / 256),leN]
  simp [Nat.div_div_eq_div_mul,Nat.pow_succ,Nat.mul_comm]
set_option maxRecDepth 100000 in
set_option maxHeartbeats 1000000 in
theorem put_any {w:World} {g:Nat} {ty:TypeId} {l:List UInt8} (o n N c v:Nat) (h:Blk w g ty l) (hn:n≤8) (hN:n≤N) (ho:o+n≤l.length) (hl:l.length≤16777216) (hv:v < 9223372036854775808) :
  Calls Tryz.prog 93 #[.slice (some ⟨g,o,none⟩) N c,.int .i64 v,.int .i64 n] w fun e w'=>e=.returned (.tuple #[])∧Blk w' g ty (over l o (leN n v))∧Keeps [g] w w':=by
 have HB:=Lib.hid h
 clear h
 go_enter Tryz.func93,Tryz.ntmps93
 go_wp2_with fail
 go_loopw [8] (fun iv wr=>∃ k:Nat,k≤n∧iv=.int .i64 k∧Blk wr g ty (over l o (leN k v))∧Keeps [g] w wr) (fun iv _=>n - (intOf iv).toNat)
 case atStart=>exact ⟨0,Nat.zero_le _,rfl,by rw [show leN 0 v=[] from rfl,over_nil];exact HB.out,Keeps.refl _ _⟩
 case round =>
  obtain ⟨k,hk,rfl,hb,hkr⟩:=hrel
  have hb':=Lib.hid hb
  have HKR:=Lib.hid hkr
  have k0:(0:Int)≤(k:Int):=by omega
  clear hb hkr
  by_cases hlt:k < n
  ·have k1:(k:Int) < (n:Int):=by omega
   have k2:(k:Int) < (N:Int):=by omega
   have hlen:(over l o (leN k v)).length=l.length:=over_length (by rw [leN_length];omega)
   obtain ⟨u0,hcell⟩:∃ u,wr.cell? ⟨g,o+k,none⟩=some u:=⟨_,hb'.out.cell (o+k) (by omega)⟩
   have hfz:=hb'.out.free (o+k)
   obtain ⟨x,hx⟩:∃ x,x=UInt8.ofNat (v / 256 ^ k % 256):=⟨_,rfl⟩
   have hxv:((v:Int) / 2 ^ (8 * k) % 256)=(x.toNat:Int):=by
    rw [hx,UInt8.toNat_ofNat',Nat.mod_mod,show (256:Nat) ^ k=2 ^ (8 * k) by rw [Nat.pow_mul]]
    simp only [Int.natCast_emod,Int.natCast_ediv,Int.natCast_pow]
    rfl
   obtain ⟨xn,hxn⟩:∃ xn,xn=x.toNat:=⟨_,rfl⟩
   rw [← hxn] at hxv
   have HX:=Lib.hid hx
   have HXN:=Lib.hid hxn
   clear hx hxn hlen
   go_wp2_with fail
   go_roundw
   case rel =>
    refine ⟨k+1,by omega,by go_num,?_,HKR.out.setCell (.inl (by simp)) _⟩
    have:=hb'.out.set (o+k) x
    have e:=over_snoc (l:=l) (o:=o) (xs:=leN k v) (x:=x) (by rw [leN_length];omega)
    rw [leN_length] at e
    rw [e,HX.out,← leN_snoc,← HX.out] at this
    rw [HXN.out]
    exact this
   case measure=>simp [intOf];omega
  ·have k1:¬ (k:Int) < (n:Int):=by omega
   have e:k=n:=by omega
   subst e
   go_wp2_with fail
   exact Go.Great.bodyPost_end0 rfl rfl ⟨rfl,hb'.out,HKR.out⟩
theorem zeroB_take_succ {l:List UInt8} {k:Nat} (h:k < l.length):zeroB (l.take (k+1))=(zeroB (l.take k) && l[k] == 0):=by
 rw [List.take_succ_eq_append_getElem h]
 unfold zeroB
 rw [List.any_append]
 simp only [List.any_cons,List.any_nil,Bool.or_false,Bool.not_or]
 congr 1
 simp [bne]
theorem zeroB_false {l:List UInt8} {k:Nat} (h:k < l.length) (hx:l[k]≠0):zeroB l=false:=by
 unfold zeroB
 rw [Bool.not_eq_false']
 exact List.any_eq_true.mpr ⟨l[k],List.getElem_mem h,by simpa using hx⟩
set_option maxRecDepth 100000 in
set_option maxHeartbeats 1000000 in
theorem allZero_any {w:World} {v:Value} {l:List UInt8} (hv:BytesAt w v l) :
  Calls Tryz.prog 108 #[v] w fun e w'=>e=.returned (.bool (zeroB l))∧w=w':=by
 obtain ⟨a,c,rfl,hc,hm⟩:=hv.form
 unfold maxLen at hm
 obtain ⟨n,hn⟩:∃ n,n=l.length:=⟨_,rfl⟩
 have hbyte:∀ k (h:k < l.length),∃ gb ob,a=some ⟨gb,ob,none⟩∧w.cell? ⟨gb,ob+k,none⟩=some (.int .u8 l[k].toNat):=fun k h=>by
  obtain ⟨gb,ob,rfl,hgb,hrb⟩:=hv.at (by omega)
  exact ⟨gb,ob,rfl,range_byte hrb rfl (List.getElem?_eq_getElem h)⟩
 have HB:=Lib.hid hbyte
 have HN:=Lib.hid hn
 rw [← hn] at hc ⊢
 clear hv hn hbyte
 go_enter Tryz.func108,Tryz.ntmps108
 go_wp2_with fail
 go_loop [7] (fun iv=>∃ k:Nat,k≤n∧iv=.int .i64 k∧zeroB (l.take k)=true) (fun iv=>n - (intOf iv).toNat)
 case atStart=>exact ⟨0,Nat.zero_le _,rfl,rfl⟩
 case round =>
  obtain ⟨k,hk,rfl,hz⟩:=hrel
  have HZ:=Lib.hid hz
  have k0:(0:Int)≤(k:Int):=by omega
  clear hz
  by_cases hlt:k < n
  ·have k1:(k:Int) < (n:Int):=by omega
   have hkl:k < l.length:=by rw [← HN.out];exact hlt
   obtain ⟨gb,ob,rfl,hcb⟩:=HB.out k hkl
   obtain ⟨x,hx⟩:∃ x,x=l[k]:=⟨_,rfl⟩
   rw [← hx] at hcb
   obtain ⟨xn,hxn⟩:∃ xn,xn=x.toNat:=⟨_,rfl⟩
   rw [← hxn] at hcb
   by_cases h0:xn=0
   ·subst h0
    have hz1:zeroB (l.take (k+1))=true:=by
     rw [zeroB_take_succ hkl,HZ.out,← hx,Bool.true_and,beq_iff_eq]
     exact UInt8.toNat_inj.mp hxn.symm
    have HZ1:=Lib.hid hz1
    clear hz1 hx hxn
    go_wp2_with fail
    go_round
    case rel=>exact ⟨k+1,by omega,by go_num,HZ1.out⟩
    case measure=>simp [intOf];omega
   ·have hzf:zeroB l=false:=zeroB_false hkl (by rw [← hx];intro e;subst e;exact h0 hxn)
    have HZF:=Lib.hid hzf
    have x0:¬ (xn:Int)=0:=by omega
    clear hzf hx hxn
    go_wp2_with fail
    go_ret
    exact ⟨by rw [HZF.out];rfl,rfl⟩
  ·have k1:¬ (k:Int) < (n:Int):=by omega
   have hz1:zeroB l=true:=by rw [← HZ.out,List.take_of_length_le (by rw [← HN.out];omega)]
   have HZ1:=Lib.hid hz1
   clear hz1
   go_wp2_with fail
   go_ret
   exact ⟨by rw [HZ1.out];rfl,rfl⟩
theorem bits_or_i64 {a b:Nat} (ha:a < 9223372036854775808) (hb:b < 9223372036854775808):bits .or .i64 (a:Int) (b:Int)=((a ||| b:Nat):Int):=by
 have hx:a ||| b < 2 ^ 63:=Nat.or_lt_two_pow (by omega) (by omega)
 show IntKind.i64.wrap ((BitVec.ofInt 64 (a:Int) ||| BitVec.ofInt 64 (b:Int)).toNat:Int)=_
 have e:∀ x:Nat,x < 9223372036854775808→(BitVec.ofInt 64 (x:Int)).toNat=x:=fun x hx=>by
  rw [BitVec.ofInt_natCast,BitVec.toNat_ofNat];exact Nat.mod_eq_of_lt (by omega)
 rw [BitVec.toNat_or,e a ha,e b hb]
 exact IntWalk.i64_in _ (by omega)
theorem or_low {a b:Nat} (hb:b < 256):a * 256 ||| b=a * 256+b:=by
 have:=Nat.two_pow_add_eq_or_of_lt (i:=8) (b:=b) (by omega) a
 rw [show (2:Nat) ^ 8=256 from rfl] at this
 rw [Nat.mul_comm a 256]
 exact this.symm
theorem drop_take_cons {l:List UInt8} {k n:Nat} (hk:k < n) (hn:n≤l.length):(l.take n).drop k=l[k]'(by omega) :: (l.take n).drop (k+1):=by
 have h:k < (l.take n).length:=by rw [List.length_take];omega
 rw [List.drop_eq_getElem_cons h,List.getElem_take]
set_option maxRecDepth 100000 in
set_option maxHeartbeats 1000000 in
theorem get_any {w:World} {v:Value} {l:List UInt8} (n:Nat) (hv:BytesAt w v l) (hn7:n≤7) (hn:n≤l.length) :
  Calls Tryz.prog 109 #[v,.int .i64 n] w fun e w'=>e=.returned (.int .i64 (unLe (l.take n)))∧w=w':=by
 obtain ⟨a,c,rfl,hc,hm⟩:=hv.form
 unfold maxLen at hm
 obtain ⟨N,hN⟩:∃ N,N=l.length:=⟨_,rfl⟩
 have hbyte:∀ k (h:k < l.length),∃ gb ob,a=some ⟨gb,ob,none⟩∧w.cell? ⟨gb,ob+k,none⟩=some (.int .u8 l[k].toNat):=fun k h=>by
  obtain ⟨gb,ob,rfl,hgb,hrb⟩:=hv.at (by omega)
  exact ⟨gb,ob,rfl,range_byte hrb rfl (List.getElem?_eq_getElem h)⟩
 have HB:=Lib.hid hbyte
 have HN:=Lib.hid hN
 rw [← hN] at hc hn ⊢
 clear hv hN hbyte
 go_enter Tryz.func109,Tryz.ntmps109
 go_wp2_with fail
 go_loop [5,6] (fun vv iv=>∃ k V:Nat,k≤n∧iv=.int .i64 ((k:Int) - 1)∧vv=.int .i64 V∧V=unLe ((l.take n).drop k)∧V < 256 ^ (n - k)) (fun _ iv=>(intOf iv+1).toNat)
 case atStart=>exact ⟨n,0,Nat.le_refl _,by go_num,rfl,by rw [List.drop_of_length_le (by rw [List.length_take];omega)];rfl,by simp⟩
 case round =>
  obtain ⟨k,V,hk,rfl,rfl,hV,hVl⟩:=hrel
  have HV:=Lib.hid hV
  have HVL:=Lib.hid hVl
  clear hV hVl
  cases k with
  | zero =>
   have HF:=Lib.hid (show V=unLe (l.take n) by rw [HV.out];rfl)
   go_wp2_with fail
   go_ret
   exact ⟨by rw [← HF.out];rfl,rfl⟩
  | succ k =>
   have k0:(0:Int)≤(k:Int):=by omega
   have k1:(k:Int) < (N:Int):=by omega
   have kk:((k+1:Nat):Int) - 1=(k:Int):=by omega
   have hkl:k < l.length:=by rw [← HN.out];omega
   obtain ⟨gb,ob,rfl,hcb⟩:=HB.out k hkl
   obtain ⟨x,hx⟩:∃ x,x=l[k]:=⟨_,rfl⟩
   rw [← hx] at hcb
   obtain ⟨xn,hxn⟩:∃ xn,xn=x.toNat:=⟨_,rfl⟩
   have hx8:xn < 256:=by rw [hxn];exact x.toNat_lt
   rw [← hxn] at hcb
   have hvl:V < 72057594037927936 / 256:=by
    have h1:=HVL.out
    have h2:(256:Nat) ^ (n - (k+1))≤256 ^ 6:=Nat.pow_le_pow_right (by omega) (by omega)
    have h3:(256:Nat) ^ 6=72057594037927936 / 256:=rfl
    omega
   have hV1:V * 256+xn=unLe ((l.take n).drop k):=by
    rw [drop_take_cons (by omega) (by rw [← HN.out];exact hn),unLe,← HV.out,← hx,← hxn]
    omega
   have hV2:V * 256+xn < 256 ^ (n - k):=by
    have h1:=HVL.out
    rw [show n - k=(n - (k+1))+1 by omega,Nat.pow_succ]
    omega
   have eo:bits BinOp.or IntKind.i64 ((V:Int) * 256) (xn:Int)=((V * 256+xn:Nat):Int):=by
    rw [← or_low hx8]
    exact bits_or_i64 (a:=V * 256) (b:=xn) (by omega) (by omega)
   have v0:(V:Int) * 256≤9223372036854775807:=by omega
   have v1:(0:Int)≤(V:Int) * 256:=by omega
   have HV1:=Lib.hid hV1
   have HV2:=Lib.hid hV2
   have lx:(l[k].toNat:Int)=(xn:Int):=by rw [hxn,hx]
   clear hV1 hV2 hx hxn HB
   rw [kk]
   go_wp2_with fail
   go_round
   case rel=>exact ⟨k,_,by omega,rfl,rfl,HV1.out,HV2.out⟩
   case measure=>simp [intOf]
open Go.RowKit
theorem and31_u64 (k:Int):bits .and .u64 (IntKind.u64.wrap k) 31=k % 32:=by
 have hw:IntKind.u64.wrap k=k % 18446744073709551616:=by simp [IntKind.wrap,IntKind.bits,IntKind.signed]
 obtain ⟨a,ha⟩:∃ a:Nat,(a:Int)=k % 18446744073709551616:=⟨(k % 18446744073709551616).toNat,by omega⟩
 rw [hw,← ha]
 have hal:a < 18446744073709551616:=by omega
 have hx:a &&& 31=a % 32:=Nat.and_two_pow_sub_one_eq_mod a 5
 show IntKind.u64.wrap ((BitVec.ofInt 64 (a:Int) &&& BitVec.ofInt 64 (31:Int)).toNat:Int)=_
 have e1:(BitVec.ofInt 64 (a:Int)).toNat=a:=by rw [BitVec.ofInt_natCast,BitVec.toNat_ofNat];exact Nat.mod_eq_of_lt hal
 have e2:(BitVec.ofInt 64 (31:Int)).toNat=31:=by decide
 rw [BitVec.toNat_and,e1,e2,hx]
 have:IntKind.u64.wrap ((a % 32:Nat):Int)=((a % 32:Nat):Int):=by
  simp only [IntKind.wrap,IntKind.bits,IntKind.signed]
  simp
  omega
 rw [this]
 omega
set_option maxRecDepth 100000 in
set_option maxHeartbeats 800000 in
theorem rot_any {w:World} (x s:Nat) (k:Int) (hx:x < 4294967296) (hk:k % 32=(s:Int)) (h0:0 < s) (h1:s < 32) :
  Calls Tryz.prog 115 #[.int .u32 x,.int .i64 k] w fun e w'=>e=.returned (.int .u32 (rotl x s))∧w=w':=by
 have e1:=and31_u64 k
 rw [hk] at e1
 clear hk
 go_enter Tryz.func115,Tryz.ntmps115
 go_wp2_with fail
 go_ret
 have e2:((x:Int) * 2 ^ s % 4294967296)=((x * 2 ^ s % 4294967296:Nat):Int):=by simp only [Int.natCast_emod,Int.natCast_mul,Int.natCast_pow];rfl
 have e3:((x:Int) / 2 ^ (32 - s))=((x / 2 ^ (32 - s):Nat):Int):=by simp only [Int.natCast_ediv,Int.natCast_pow];rfl
 refine ⟨?_,rfl⟩
 show Ending.returned (.int .u32 (bits BinOp.or IntKind.u32 ((x:Int) * 2 ^ s % 4294967296) ((x:Int) / 2 ^ (32 - s))))=_
 rw [e2,e3,bits_or_u32 (Nat.mod_lt _ (by omega)) (Nat.lt_of_le_of_lt (Nat.div_le_self _ _) hx)]
 rfl
def W32 (n:Nat):Value:=.int .u32 n
def Wds (w:World) (g:Nat) (t:TypeId) (l:List Nat):Prop:=w.heap[g]?=some (.cells (l.map W32).toArray t (0,0))
theorem Wds.cell {w:World} {g:Nat} {t:TypeId} {l:List Nat} (h:Wds w g t l) (i:Nat) (hi:i < l.length):w.cell? ⟨g,i,none⟩=some (.int .u32 (l.getD i 0:Nat)):=by
 rw [cell_of_row w g i _ _ _ h,List.getD_eq_getElem?_getD,List.getElem?_eq_getElem hi]
 simp [hi,W32]
theorem Wds.free {w:World} {g:Nat} {t:TypeId} {l:List Nat} (h:Wds w g t l) (i:Nat):w.frozen? ⟨g,i,none⟩=false:=frozen_of_row w g i _ _ h
theorem Wds.lt {w:World} {g:Nat} {t:TypeId} {l:List Nat} (h:Wds w g t l):g < w.heap.size:=lt_of_heap h
theorem Wds.set {w:World} {g:Nat} {t:TypeId} {l:List Nat} (h:Wds w g t l) (i x:Nat):Wds (w.setCell ⟨g,i,none⟩ (.int .u32 x)) g t (l.set i x):=by
 have:=heap_setCell_same w g i _ t (.int .u32 x) h
 unfold Wds
 rw [this]
 simp [W32]
theorem Wds.keeps {w w':World} {g:Nat} {t:TypeId} {l:List Nat} {F:List Nat} (h:Wds w g t l) (hk:Keeps F w w') (hg:g ∉ F):Wds w' g t l:=(hk.block g h.lt hg).trans h
open Go.RowKit
set_option maxRecDepth 100000 in
set_option maxHeartbeats 800000 in
theorem turn_any {w:World} (x n s:Nat) (hx:x < 4294967296) (h0:0 < s) (h1:s < 32) (hn:n+s=32) :
  Calls Tryz.prog 116 #[.int .u32 x,.int .u64 n] w fun e w'=>e=.returned (.int .u32 (rotl x s))∧w=w':=by
 have e0:IntKind.u64.wrap (32 - (n:Int))=(s:Int):=by simp only [IntKind.wrap,IntKind.bits,IntKind.signed];simp;omega
 have HN:=Lib.hid hn
 clear hn
 go_enter Tryz.func116,Tryz.ntmps116
 go_wp2_with fail
 go_ret
 have e2:((x:Int) * 2 ^ s % 4294967296)=((x * 2 ^ s % 4294967296:Nat):Int):=by simp only [Int.natCast_emod,Int.natCast_mul,Int.natCast_pow];rfl
 have e3:((x:Int) / 2 ^ (32 - s))=((x / 2 ^ (32 - s):Nat):Int):=by simp only [Int.natCast_ediv,Int.natCast_pow];rfl
 have e4:min n 32=32 - s:=by have:=HN.out;omega
 refine ⟨?_,rfl⟩
 show Ending.returned (.int .u32 (bits BinOp.or IntKind.u32 ((x:Int) / 2 ^ (min n 32)) ((x:Int) * 2 ^ s % 4294967296)))=_
 rw [e4,e2,e3,bits_or_u32 (Nat.lt_of_le_of_lt (Nat.div_le_self _ _) hx) (Nat.mod_lt _ (by omega)),Nat.or_comm]
 rfl
theorem beN_take (v:Nat) (k:Nat) (hk:k < 8):(beN 8 v).take (k+1)=(beN 8 v).take k++[UInt8.ofNat (v / 2 ^ (56 - 8 * k) % 256)]:=by
 have h:∀ n v,beN n v=(List.range n).map fun i=>UInt8.ofNat (v / 256 ^ (n - 1 - i) % 256):=by
  intro n
  induction n with
  | zero=>intro v;rfl
  | succ n ih =>
   intro v
   rw [beN,ih,List.range_succ,List.map_append]
   congr 1
   ·refine List.map_congr_left (fun i hi=>?_)
    have:=List.mem_range.1 hi
    rw [Nat.div_div_eq_div_mul,← Nat.pow_succ',show (n - 1 - i).succ=n+1 - 1 - i by omega]
   ·simp
 rw [h 8 v,← List.map_take,← List.map_take,List.take_range,List.take_range,show min (k+1) 8=k+1 by omega,show min k 8=k by omega,List.range_succ,List.map_append]
 simp only [List.map_cons,List.map_nil]
 rw [show (256:Nat)=2 ^ 8 from rfl,← Nat.pow_mul,show 8 * (8 - 1 - k)=56 - 8 * k by omega]
def padK (m:List UInt8):Nat:=(55+64 - m.length % 64) % 64
set_option maxRecDepth 100000 in
set_option maxHeartbeats 1600000 in
theorem filled_any {w:World} {v:Value} {m:List UInt8} (hv:BytesAt w v m) (hl:m.length≤1048576) :
  Calls Tryz.prog 102 #[v] w fun e w'=>∃ v',e=.returned v'∧OwnB w' v' (shaPad m)∧(∀ k,v'.ownBlock=some k→w.heap.size≤k)∧Keeps [] w w':=by
 obtain ⟨a,c,rfl,hc,hm⟩:=hv.form
 unfold maxLen at hm
 obtain ⟨i0,hi0,hz0,hz1,hz2⟩:=info_parts info_u8
 have hown0:=World.ownsRow_nil w w.heap.size 5 1
 obtain ⟨v1,w1,hr1,ho1,hg1⟩:=run_append_bytes hown0 hv (by omega) (Nat.le_refl _) 36
 have k1:Keeps [] w w1:=(Keeps.refl _ _).grown hg1 (fun k hk=>.inr (World.ownsRow.lt hown0 k hk).1)
 have HAP:=Lib.hid (run_builtin_append hr1)
 have HI0:=Lib.hid hi0
 have HZ0:=Lib.hid hz0
 have HZ1:=Lib.hid hz1
 have HZ2:=Lib.hid hz2
 have HV:=Lib.hid hv
 have HO1:=Lib.hid ho1
 have HK1:=Lib.hid k1
 clear hi0 hz0 hz1 hz2 hv hown0 hr1 ho1 hg1 k1
 go_enter Tryz.func102,Tryz.ntmps102
 go_upto_region 3 with (first | (refine wl_builtin rfl .append #[.tmp 6,.tmp 7] #[36,36] rfl ?_;simp only [List.map_toArray,List.map_cons,List.map_nil];refine ⟨_,_,HAP.out,?_⟩;try simp only [zA,zB,zC,zD,zE,zF,zG,zH]))
 have hbase1:=HK1.out.size
 go_wp2_with (first | (refine wl_app1 (w0:=w1) rfl (.tmp 9) (.tmp 10) rfl w.heap.size v1 _ m (by rfl) (by have:=HO1.out;simpa using this) 128 (by rfl) (by rfl) (by omega) hbase1 ?_;intro v2 w2 ho2 hk2 _;try simp only [zA,zB,zC,zD,zE,zF,zG,zH]))
 have HK2:=Lib.hid (hk2 [] w HK1.out (Nat.le_refl _))
 have HO2:=Lib.hid ho2
 clear ho2 hk2 HAP HO1
 go_loopw [3] (fun v wr=>∃ k:Nat,k≤padK m∧wr.ownsRow w.heap.size 5 1 v (m.length+1+k) ((m++128 :: List.replicate k 0).map B)∧Keeps [] w wr) (fun v _=>m.length+1+padK m - sLen v)
 case atStart=>exact ⟨0,Nat.zero_le _,HO2.out,HK2.out⟩
 case round =>
  obtain ⟨k,hk,hown,hkr⟩:=hrel
  obtain ⟨a1,c1,rfl⟩:=own_form hown
  have HOWN:=Lib.hid hown
  have hsz:=hkr.size
  clear hown
  obtain ⟨N,hN⟩:∃ N,N=m.length+1+k:=⟨_,rfl⟩
  rw [← hN]
  have HN:=Lib.hid hN
  clear hN
  have hbr:w.heap.size≤wr.heap.size:=hsz
  by_cases hlt:k < padK m
  ·have b1:((N:Int) % 64 != 56)=true:=by have h:=HN.out;unfold padK at hlt;simp;omega
   have hown:wr.ownsRow w.heap.size 5 1 (.slice a1 N c1) N ((m++128 :: List.replicate k 0).map B):=by have h:=HOWN.out;rwa [← HN.out] at h
   have HOW:=Lib.hid hown
   have hN2:N≤1099511627775:=by have h:=HN.out;unfold padK at hlt;omega
   clear hown HOWN
   go_wp2_with (first | (refine wl_app1 (w0:=wr) rfl (.tmp 16) (.tmp 17) rfl w.heap.size (.slice a1 N c1) N (m++128 :: List.replicate k 0) (by rfl) HOW.out 0 (by rfl) (by rfl) (by omega) hbr ?_;intro v2 w3 ho2 hk2 _;try simp only [zA,zB,zC,zD,zE,zF,zG,zH]))
   have HO2:=Lib.hid ho2
   have HK2:=Lib.hid (hk2 [] w hkr (Nat.le_refl _))
   obtain ⟨a2,c2,rfl⟩:=own_form ho2
   clear ho2 hk2
   go_roundw
   case rel =>
    refine ⟨k+1,by omega,?_,HK2.out⟩
    have h:=HO2.out
    rw [HN.out] at h
    have e:m++128 :: List.replicate k (0:UInt8)++[0]=m++128 :: List.replicate (k+1) 0:=by rw [List.replicate_succ'];simp
    rw [e] at h
    rw [show m.length+1+(k+1)=m.length+1+k+1 by omega,HN.out]
    exact h
   case measure=>have:=HN.out;simp [sLen];omega
  ·have e:k=padK m:=by omega
   subst e
   have b1:((N:Int) % 64 != 56)=false:=by have h:=HN.out;unfold padK at h;simp;omega
   obtain ⟨L,hL⟩:∃ L,L=m++128 :: List.replicate (padK m) (0:UInt8):=⟨_,rfl⟩
   have hown:wr.ownsRow w.heap.size 5 1 (.slice a1 N c1) N (L.map B):=by have h:=HOWN.out;rwa [← HN.out,← hL] at h
   obtain ⟨V,hV⟩:∃ V,V=m.length * 8 % 18446744073709551616:=⟨_,rfl⟩
   have hV1:IntKind.u64.wrap (((m.length:Int)) * 8)=(V:Int):=by rw [hV];simp only [IntKind.wrap,IntKind.bits,IntKind.signed];simp
   have hV2:(m.length:Int) * 8=(V:Int):=by omega
   have HOW:=Lib.hid hown
   have HL:=Lib.hid hL
   have HVV:=Lib.hid hV
   have HKR:=Lib.hid hkr
   obtain ⟨wz,rfl⟩:∃ x:World,x=wr:=⟨_,rfl⟩
   clear hown hL hV HOWN hkr hlt hk
   go_wp2_with fail
   go_loopw [3,5] (fun v i wr=>∃ k:Nat,k≤8∧i=.int .i64 k∧wr.ownsRow w.heap.size 5 1 v (N+k) ((L++(beN 8 V).take k).map B)∧Keeps [] w wr) (fun _ i _=>8 - (intOf i).toNat)
   case atStart=>exact ⟨0,Nat.zero_le _,rfl,by simpa using HOW.out,HKR.out⟩
   case round =>
    obtain ⟨k,hk,rfl,hown,hkr⟩:=hrel
    obtain ⟨a2,c2,rfl⟩:=own_form hown
    have HOWN:=Lib.hid hown
    have hbr:w.heap.size≤wr.heap.size:=hkr.size
    clear hown
    have hN2:N+k≤1099511627775:=by have h:=HN.out;unfold padK at h;omega
    have b0:(0:Int)≤(k:Int):=by omega
    by_cases hlt:k < 8
    ·have b1:(k:Int) < 8:=by omega
     obtain ⟨t,ht⟩:∃ t,t=56 - 8 * k:=⟨_,rfl⟩
     have e1:56 - 8 * (k:Int)=(t:Int):=by omega
     obtain ⟨x,hx⟩:∃ x,x=UInt8.ofNat (V / 2 ^ t % 256):=⟨_,rfl⟩
     obtain ⟨xn,hxn⟩:∃ xn,xn=x.toNat:=⟨_,rfl⟩
     have e2:((V:Int) / 2 ^ t % 256)=(xn:Int):=by
      rw [hxn,hx,UInt8.toNat_ofNat',Nat.mod_mod]
      simp only [Int.natCast_emod,Int.natCast_ediv,Int.natCast_pow]
      rfl
     have e3:min t 64=t:=by omega
     have HT:=Lib.hid ht
     have HX:=Lib.hid hx
     have HXN:=Lib.hid hxn
     clear ht hx hxn
     go_wp2_with (first | (refine wl_app1 (w0:=wr) rfl (.tmp 27) (.tmp 35) rfl w.heap.size (.slice a2 (N+k) c2) (N+k) (L++(beN 8 V).take k) (by rfl) HOWN.out x (by rfl) (by rw [show B x=Value.int .u8 (xn:Int) by rw [HXN.out];rfl]) (by omega) hbr ?_;intro v2 w3 ho2 hk2 _;try simp only [zA,zB,zC,zD,zE,zF,zG,zH]))
     have HO2:=Lib.hid ho2
     have HK2:=Lib.hid (hk2 [] w hkr (Nat.le_refl _))
     obtain ⟨a3,c3,rfl⟩:=own_form ho2
     clear ho2 hk2
     go_roundw
     case rel =>
      refine ⟨k+1,by omega,by go_num,?_,HK2.out⟩
      have h:=HO2.out
      rw [List.append_assoc,HX.out,HT.out,← beN_take V k hlt] at h
      exact h
     case measure=>simp [intOf];omega
    ·have e:k=8:=by omega
     subst e
     go_wp2_with fail
     go_ret
     have h:=HOWN.out
     have e1:L++(beN 8 V).take 8=shaPad m:=by
      rw [List.take_of_length_le (by rw [beN_length];omega),HL.out,HVV.out]
      simp [shaPad,padK]
     have e2:N+8=(shaPad m).length:=by
      rw [← e1,List.length_append,List.length_take,beN_length,HL.out,HN.out]
      simp
      omega
     rw [e1,e2] at h
     exact ⟨.slice a2 (shaPad m).length c2,by rw [← e2];rfl,ownsRow_base h,fun j hj=>(World.ownsRow.lt h j hj).1,hkr⟩
end Go.Proofs.YtakaocenbempmaaGreatDoor
