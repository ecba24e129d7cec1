/-
  Lemmas of a claim, bundle D: XCrcA.
-/
import Derived.Deep.DeepCutAuto
import Derived.Deep.CutBlock
import Derived.Test.YtakaocenbempmaaGreatDoorPfA
import Derived.Test.YtakaocenbempmaaGreatDoorPfC
set_option linter.unusedVariables false
set_option linter.unusedSimpArgs false
namespace Go.Proofs.YtakaocenbempmaaGreatDoor
open Go.RowKit
theorem and15_u32 {a:Nat} (ha:a < 4294967296):bits BinOp.and IntKind.u32 (a:Int) 15=((a % 16:Nat):Int):=by
 have:=bits_and_u32 (a:=a) (b:=15) ha (by omega)
 rw [and_15] at this
 exact this
def crcCells:Array Value:=#[.int .u32 0,.int .u32 498536548,.int .u32 997073096,.int .u32 651767980,.int .u32 1994146192,.int .u32 1802195444,.int .u32 1303535960,.int .u32 1342533948,.int .u32 3988292384,.int .u32 4027552580,.int .u32 3604390888,.int .u32 3412177804,.int .u32 2607071920,.int .u32 2262029012,.int .u32 2685067896,.int .u32 3183342108]
theorem crc_cell:∀ i,i < 16→crcCells[i]?=some (.int .u32 (crcTab.getD i 0:Nat)):=by
 intro i hi
 match i,hi with
 | 0,_=>exact rfl
 | 1,_=>exact rfl
 | 2,_=>exact rfl
 | 3,_=>exact rfl
 | 4,_=>exact rfl
 | 5,_=>exact rfl
 | 6,_=>exact rfl
 | 7,_=>exact rfl
 | 8,_=>exact rfl
 | 9,_=>exact rfl
 | 10,_=>exact rfl
 | 11,_=>exact rfl
 | 12,_=>exact rfl
 | 13,_=>exact rfl
 | 14,_=>exact rfl
 | 15,_=>exact rfl
 | i+16,h=>exact absurd h (by omega)
set_option maxRecDepth 100000 in
set_option maxHeartbeats 1000000 in
theorem feed_any {w:World} (r:Nat) (hr:r < 4294967296) {v:Value} {l:List UInt8} (hv:BytesAt w v l) :
  Calls Tryz.prog 119 #[.int .u32 r,v] w fun e w'=>e=.returned (.int .u32 (feedL r l))∧Keeps [] w w':=by
 obtain ⟨a,c,rfl,hc,hm⟩:=hv.form
 unfold maxLen at hm
 obtain ⟨n,hn⟩:∃ n,n=l.length:=⟨_,rfl⟩
 obtain ⟨w1,hw1⟩:∃ w1,w1=w.alloc (.cells #[.int .u32 0,.int .u32 498536548,.int .u32 997073096,.int .u32 651767980,.int .u32 1994146192,.int .u32 1802195444,.int .u32 1303535960,.int .u32 1342533948,.int .u32 3988292384,.int .u32 4027552580,.int .u32 3604390888,.int .u32 3412177804,.int .u32 2607071920,.int .u32 2262029012,.int .u32 2685067896,.int .u32 3183342108] 199):=⟨_,rfl⟩
 obtain ⟨g,hg⟩:∃ g,g=w.heap.size:=⟨_,rfl⟩
 have hb:w1.heap[g]?=some (.cells crcCells 199 (0,0)):=by rw [hw1];exact heap_new_at hg
 have hk1:Keeps [] w w1:=by rw [hw1];exact (Keeps.refl _ _).alloc _
 have htab:∀ wr,Keeps [] w1 wr→∀ i:Nat,i < 16→wr.cell? ⟨g,i,none⟩=some (.int .u32 (crcTab.getD i 0:Nat)):=fun wr hk i hi=>by
  rw [cell_of_row wr g i _ _ _ ((hk.block g (lt_of_heap hb) (by simp)).trans hb)]
  exact crc_cell i hi
 have hv1:BytesAt w1 (.slice a l.length c) l:=hv.keeps hk1 (by simp)
 have hbyte:∀ wr,Keeps [] w1 wr→∀ k (h:k < l.length),∃ gb ob,a=some ⟨gb,ob,none⟩∧wr.cell? ⟨gb,ob+k,none⟩=some (.int .u8 l[k].toNat):=fun wr hk k h=>by
  obtain ⟨gb,ob,rfl,hgb,hrb⟩:=hv1.at (by omega)
  exact ⟨gb,ob,rfl,range_byte hrb (hk.block gb hgb (by simp)) (List.getElem?_eq_getElem h)⟩
 have HT:=Lib.hid htab
 have HB:=Lib.hid hbyte
 have HN:=Lib.hid hn
 have HW1:=Lib.hid hw1
 have HG:=Lib.hid hg
 have HK1:=Lib.hid hk1
 rw [← hn] at hc ⊢
 clear hv hn hw1 hg hb hk1 htab hv1 hbyte
 go_enter Tryz.func119,Tryz.ntmps119
 go_upto_region 2 with fail
 rw [← HW1.out,← HG.out]
 go_wp2_with fail
 go_loopw [0,11] (fun rv iv wr=>∃ k R:Nat,k≤n∧iv=.int .i64 k∧R < 4294967296∧rv=.int .u32 R∧R=feedL r (l.take k)∧Keeps [] w1 wr) (fun _ iv _=>n - (intOf iv).toNat)
 case atStart=>exact ⟨0,r,Nat.zero_le _,rfl,hr,rfl,rfl,Keeps.refl _ _⟩
 case round =>
  obtain ⟨k,R,hk,rfl,hR,rfl,hRe,hkr⟩:=hrel
  have k0:(0:Int)≤(k:Int):=by omega
  have HKR:=Lib.hid hkr
  have HRE:=Lib.hid hRe
  clear hRe hkr
  by_cases hlt:k < n
  ·have k1:(k:Int) < (n:Int):=by omega
   have hkl:k < l.length:=by rw [← HN.out];exact hlt
   obtain ⟨gb,ob,rfl,hcb⟩:=HB.out wr HKR.out k hkl
   obtain ⟨x,hx⟩:∃ x,x=l[k]:=⟨_,rfl⟩
   rw [← hx] at hcb
   obtain ⟨xn,hxn⟩:∃ xn,xn=x.toNat:=⟨_,rfl⟩
   have hx8:xn < 256:=by rw [hxn];exact x.toNat_lt
   rw [← hxn] at hcb
   obtain ⟨R1,hR1⟩:∃ R1,R1=R ^^^ xn:=⟨_,rfl⟩
   have l1:R1 < 4294967296:=by rw [hR1];exact xor_lt32 hR (by omega)
   have e1:=bits_xor_u32 hR (show xn < 4294967296 by omega)
   rw [← hR1] at e1
   obtain ⟨I1,hI1⟩:∃ I1,I1=R1 % 16:=⟨_,rfl⟩
   have e2:=and15_u32 l1
   rw [← hI1] at e2
   obtain ⟨T1,hT1⟩:∃ T1,T1=crcTab.getD I1 0:=⟨_,rfl⟩
   have c1:=HT.out wr HKR.out I1 (by omega)
   rw [← hT1] at c1
   obtain ⟨Q1,hQ1⟩:∃ Q1,Q1=R1 / 16:=⟨_,rfl⟩
   have e3:(R1:Int) / 16=(Q1:Int):=by omega
   obtain ⟨R2,hR2⟩:∃ R2,R2=T1 ^^^ Q1:=⟨_,rfl⟩
   have lT1:T1 < 4294967296:=by rw [hT1];exact crcTab_lt _ (by omega)
   have l2:R2 < 4294967296:=by rw [hR2];exact xor_lt32 lT1 (by omega)
   have e4:=bits_xor_u32 lT1 (show Q1 < 4294967296 by omega)
   rw [← hR2] at e4
   obtain ⟨I2,hI2⟩:∃ I2,I2=R2 % 16:=⟨_,rfl⟩
   have e5:=and15_u32 l2
   rw [← hI2] at e5
   obtain ⟨T2,hT2⟩:∃ T2,T2=crcTab.getD I2 0:=⟨_,rfl⟩
   have c2:=HT.out wr HKR.out I2 (by omega)
   rw [← hT2] at c2
   obtain ⟨Q2,hQ2⟩:∃ Q2,Q2=R2 / 16:=⟨_,rfl⟩
   have e6:(R2:Int) / 16=(Q2:Int):=by omega
   obtain ⟨R3,hR3⟩:∃ R3,R3=T2 ^^^ Q2:=⟨_,rfl⟩
   have lT2:T2 < 4294967296:=by rw [hT2];exact crcTab_lt _ (by omega)
   have l3:R3 < 4294967296:=by rw [hR3];exact xor_lt32 lT2 (by omega)
   have e7:=bits_xor_u32 lT2 (show Q2 < 4294967296 by omega)
   rw [← hR3] at e7
   have i10:(0:Int)≤(I1:Int):=by omega
   have i11:(I1:Int) < 16:=by omega
   have i20:(0:Int)≤(I2:Int):=by omega
   have i21:(I2:Int) < 16:=by omega
   have hfin:R3=feedL r (l.take (k+1)):=by
    rw [List.take_succ_eq_append_getElem hkl,feedL_snoc,← HRE.out,← hx]
    unfold crcByte crcHalf
    rw [← hxn,← hR1,← hI1,← hQ1,← hT1,← hR2,← hI2,← hQ2,← hT2,← hR3]
   have HFIN:=Lib.hid hfin
   clear hfin hx hxn hR1 hI1 hT1 hQ1 hR2 hI2 hT2 hQ2 hR3
   go_wp2_with fail
   go_roundw
   case rel=>exact ⟨k+1,R3,by omega,by go_num,l3,rfl,HFIN.out,HKR.out⟩
   case measure=>simp [intOf];omega
  ·have k1:¬ (k:Int) < (n:Int):=by omega
   have HRL:=Lib.hid (show R=feedL r l by rw [HRE.out,List.take_of_length_le (by rw [← HN.out];omega)])
   go_wp2_with fail
   go_ret
   have e:=HRL.out
   subst e
   exact ⟨rfl,HK1.out.trans (G:=[]) HKR.out (by simp)⟩
theorem update_any {w:World} (c:Nat) (hc:c < 4294967296) {v:Value} {l:List UInt8} (hv:BytesAt w v l) :
  Calls Tryz.prog 118 #[.int .u32 c,v] w fun e w'=>e=.returned (.int .u32 (crcUpd c l))∧Keeps [] w w':=by
 have cF:=feed_any (w:=w) (4294967295 - c) (by omega) hv
 have hf:=feedL_lt l (r:=4294967295 - c) (by omega)
 obtain ⟨U,hU⟩:∃ U,U=crcUpd c l:=⟨_,rfl⟩
 have hU':=hU
 unfold crcUpd at hU'
 obtain ⟨R,hR⟩:∃ R,R=feedL (4294967295 - c) l:=⟨_,rfl⟩
 rw [← hR] at cF hf hU'
 obtain ⟨c1,hc1⟩:∃ c1,c1=4294967295 - c:=⟨_,rfl⟩
 rw [← hc1] at cF
 have e1:=bits_not_u32 hc
 rw [← hc1] at e1
 have e2:=bits_not_u32 hf
 rw [← hU'] at e2
 have hs:¬ IntKind.u32.signed=true:=by decide
 have CF:=Lib.hid cF
 rw [← hU]
 clear hv hR hc1 hU hU' cF
 go_enter Tryz.func118,Tryz.ntmps118
 go_wp2_with fail
 refine CF.out.mono ?_
 rintro e w1 ⟨rfl,hk⟩
 have HK:=Lib.hid hk
 clear hk
 go_wp2_with fail
 go_ret
 exact ⟨rfl,HK.out⟩
theorem sum_any {w:World} {v:Value} {l:List UInt8} (hv:BytesAt w v l) :
  Calls Tryz.prog 110 #[v] w fun e w'=>e=.returned (.int .u32 (crcL l))∧Keeps [] w w':=by
 have cU:=update_any (w:=w) 0 (by omega) hv
 have CU:=Lib.hid cU
 clear hv cU
 go_enter Tryz.func110,Tryz.ntmps110
 go_wp2_with fail
 refine CU.out.mono ?_
 rintro e w1 ⟨rfl,hk⟩
 have HK:=Lib.hid hk
 clear hk
 go_wp2_with fail
 go_ret
 exact ⟨rfl,HK.out⟩
end Go.Proofs.YtakaocenbempmaaGreatDoor
