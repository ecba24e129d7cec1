/-
  Lemmas of a claim, bundle A: XU32 XCrcP XShaP XFrP.
-/
import Derived.Laws.Entries
import Derived.IntWalk
set_option linter.unusedVariables false
set_option linter.unusedSimpArgs false
namespace Go.Proofs.YtakaocenbempmaaGreatDoor
open Go
theorem wrap_u32' (n:Int):IntKind.u32.wrap n=n % 4294967296:=by simp [IntKind.wrap,IntKind.bits,IntKind.signed]
theorem bv32 {a:Nat} (ha:a < 4294967296):(BitVec.ofInt 32 (a:Int)).toNat=a:=by
 rw [BitVec.ofInt_natCast,BitVec.toNat_ofNat];exact Nat.mod_eq_of_lt (by omega)
theorem bits_xor_u32 {a b:Nat} (ha:a < 4294967296) (hb:b < 4294967296):bits .xor .u32 (a:Int) (b:Int)=((a ^^^ b:Nat):Int):=by
 have hx:a ^^^ b < 2 ^ 32:=Nat.xor_lt_two_pow (by omega) (by omega)
 show IntKind.u32.wrap ((BitVec.ofInt 32 (a:Int) ^^^ BitVec.ofInt 32 (b:Int)).toNat:Int)=_
 rw [BitVec.toNat_xor,bv32 ha,bv32 hb,wrap_u32']
 omega
theorem bits_and_u32 {a b:Nat} (ha:a < 4294967296) (hb:b < 4294967296):bits .and .u32 (a:Int) (b:Int)=((a &&& b:Nat):Int):=by
 have hx:a &&& b < 2 ^ 32:=Nat.and_lt_two_pow _ (by omega)
 show IntKind.u32.wrap ((BitVec.ofInt 32 (a:Int) &&& BitVec.ofInt 32 (b:Int)).toNat:Int)=_
 rw [BitVec.toNat_and,bv32 ha,bv32 hb,wrap_u32']
 omega
theorem bits_or_u32 {a b:Nat} (ha:a < 4294967296) (hb:b < 4294967296):bits .or .u32 (a:Int) (b:Int)=((a ||| b:Nat):Int):=by
 have hx:a ||| b < 2 ^ 32:=Nat.or_lt_two_pow (by omega) (by omega)
 show IntKind.u32.wrap ((BitVec.ofInt 32 (a:Int) ||| BitVec.ofInt 32 (b:Int)).toNat:Int)=_
 rw [BitVec.toNat_or,bv32 ha,bv32 hb,wrap_u32']
 omega
theorem xor_lt32 {a b:Nat} (ha:a < 4294967296) (hb:b < 4294967296):a ^^^ b < 4294967296:=Nat.xor_lt_two_pow (n:=32) ha hb
theorem and_lt32 {a b:Nat} (hb:b < 4294967296):a &&& b < 4294967296:=Nat.and_lt_two_pow (n:=32) _ hb
theorem or_lt32 {a b:Nat} (ha:a < 4294967296) (hb:b < 4294967296):a ||| b < 4294967296:=Nat.or_lt_two_pow (n:=32) ha hb
theorem and_15 (a:Nat):a &&& 15=a % 16:=Nat.and_two_pow_sub_one_eq_mod a 4
theorem bits_not_u32 {a:Nat} (ha:a < 4294967296):bits .xor .u32 IntKind.u32.max (a:Int)=((4294967295 - a:Nat):Int):=by
 have hm:IntKind.u32.max=((4294967295:Nat):Int):=by decide
 rw [hm,bits_xor_u32 (by omega) ha]
 congr 1
 have h1:(BitVec.allOnes 32 ^^^ BitVec.ofNat 32 a).toNat=4294967295 - a:=by
  rw [BitVec.allOnes_xor,BitVec.toNat_not,BitVec.toNat_ofNat,Nat.mod_eq_of_lt (by omega)]
 rw [BitVec.toNat_xor,BitVec.toNat_allOnes,BitVec.toNat_ofNat,Nat.mod_eq_of_lt (by omega)] at h1
 exact h1
open Go
def crcTab:List Nat:=[0x00000000,0x1DB71064,0x3B6E20C8,0x26D930AC,0x76DC4190,0x6B6B51F4,0x4DB26158,0x5005713C,0xEDB88320,0xF00F9344,0xD6D6A3E8,0xCB61B38C,0x9B64C2B0,0x86D3D2D4,0xA00AE278,0xBDBDF21C]
def crcHalf (r:Nat):Nat:=crcTab.getD (r % 16) 0 ^^^ r / 16
def crcByte (r:Nat) (x:UInt8):Nat:=crcHalf (crcHalf (r ^^^ x.toNat))
def feedL (r:Nat) (p:List UInt8):Nat:=p.foldl crcByte r
def crcUpd (c:Nat) (p:List UInt8):Nat:=4294967295 - feedL (4294967295 - c) p
def crcL (b:List UInt8):Nat:=crcUpd 0 b
theorem crcTab_lt:∀ i,i < 16→crcTab.getD i 0 < 4294967296:=by decide
theorem crcHalf_lt {r:Nat} (h:r < 4294967296):crcHalf r < 4294967296:=by
 unfold crcHalf
 exact xor_lt32 (crcTab_lt _ (Nat.mod_lt _ (by omega))) (by omega)
theorem crcByte_lt {r:Nat} (h:r < 4294967296) (x:UInt8):crcByte r x < 4294967296:=by
 unfold crcByte
 exact crcHalf_lt (crcHalf_lt (xor_lt32 h (by have:=x.toNat_lt;omega)))
theorem feedL_lt (p:List UInt8):∀ {r:Nat},r < 4294967296→feedL r p < 4294967296:=by
 induction p with
 | nil=>intro r h;exact h
 | cons x p ih=>intro r h;exact ih (crcByte_lt h x)
theorem feedL_snoc (r:Nat) (p:List UInt8) (x:UInt8):feedL r (p++[x])=crcByte (feedL r p) x:=by simp [feedL]
theorem crcL_lt (b:List UInt8):crcL b < 4294967296:=by unfold crcL crcUpd;omega
def leN:Nat→Nat→List UInt8
 | 0,_=>[]
 | n+1,v=>UInt8.ofNat (v % 256) :: leN n (v / 256)
theorem leN_length:∀ n v,(leN n v).length=n
 | 0,_=>rfl
 | n+1,v=>by simp [leN,leN_length n]
def unLe:List UInt8→Nat
 | []=>0
 | x :: l=>x.toNat+256 * unLe l
theorem unLe_leN:∀ n v,v < 256 ^ n→unLe (leN n v)=v
 | 0,v,h=>by simp at h;simp [leN,unLe,h]
 | n+1,v,h=>by
  have h2:v / 256 < 256 ^ n:=by rw [Nat.pow_succ] at h;omega
  simp only [leN,unLe]
  rw [unLe_leN n _ h2,UInt8.toNat_ofNat',Nat.mod_mod]
  omega
def sealL (b:List UInt8):List UInt8:=b++leN 4 (crcL b)
def wholeL (b:List UInt8):Bool:=decide (4≤b.length) && b.drop (b.length - 4) == leN 4 (crcL (b.take (b.length - 4)))
theorem sealL_length (b:List UInt8):(sealL b).length=b.length+4:=by simp [sealL,leN_length]
theorem whole_seal (b:List UInt8):wholeL (sealL b)=true:=by
 unfold wholeL
 rw [sealL_length]
 simp [sealL]
open Go
def rotl (x s:Nat):Nat:=x * 2 ^ s % 4294967296 ||| x / 2 ^ (32 - s)
def shaS1 (x:Nat):Nat:=(rotl x 15 ^^^ rotl x 13) ^^^ x / 1024
def shaS0 (x:Nat):Nat:=(rotl x 25 ^^^ rotl x 14) ^^^ x / 8
def shaB1 (x:Nat):Nat:=(rotl x 26 ^^^ rotl x 21) ^^^ rotl x 7
def shaB0 (x:Nat):Nat:=(rotl x 30 ^^^ rotl x 19) ^^^ rotl x 10
def shaCh (e f g:Nat):Nat:=g ^^^ (e &&& (f ^^^ g))
def shaMaj (a b c:Nat):Nat:=(a &&& b) ||| (c &&& (a ||| b))
structure S8 where
 a:Nat
 b:Nat
 c:Nat
 d:Nat
 e:Nat
 f:Nat
 g:Nat
 h:Nat
def S8.ok (s:S8):Prop:=s.a < 4294967296∧s.b < 4294967296∧s.c < 4294967296∧s.d < 4294967296∧s.e < 4294967296∧s.f < 4294967296∧s.g < 4294967296∧s.h < 4294967296
def shaIV:S8:=⟨0x6a09e667,0xbb67ae85,0x3c6ef372,0xa54ff53a,0x510e527f,0x9b05688c,0x1f83d9ab,0x5be0cd19⟩
def shaK:List Nat:=[
 0x428a2f98,0x71374491,0xb5c0fbcf,0xe9b5dba5,0x3956c25b,0x59f111f1,0x923f82a4,0xab1c5ed5,
 0xd807aa98,0x12835b01,0x243185be,0x550c7dc3,0x72be5d74,0x80deb1fe,0x9bdc06a7,0xc19bf174,
 0xe49b69c1,0xefbe4786,0x0fc19dc6,0x240ca1cc,0x2de92c6f,0x4a7484aa,0x5cb0a9dc,0x76f988da,
 0x983e5152,0xa831c66d,0xb00327c8,0xbf597fc7,0xc6e00bf3,0xd5a79147,0x06ca6351,0x14292967,
 0x27b70a85,0x2e1b2138,0x4d2c6dfc,0x53380d13,0x650a7354,0x766a0abb,0x81c2c92e,0x92722c85,
 0xa2bfe8a1,0xa81a664b,0xc24b8b70,0xc76c51a3,0xd192e819,0xd6990624,0xf40e3585,0x106aa070,
 0x19a4c116,0x1e376c08,0x2748774c,0x34b0bcb5,0x391c0cb3,0x4ed8aa4a,0x5b9cca4f,0x682e6ff3,
 0x748f82ee,0x78a5636f,0x84c87814,0x8cc70208,0x90befffa,0xa4506ceb,0xbef9a3f7,0xc67178f2]
theorem shaK_lt:∀ i,i < 64→shaK.getD i 0 < 4294967296:=by decide
theorem rotl_lt (x s:Nat) (hx:x < 4294967296):rotl x s < 4294967296:=by
 unfold rotl
 exact or_lt32 (Nat.mod_lt _ (by omega)) (Nat.lt_of_le_of_lt (Nat.div_le_self _ _) hx)
def be4 (p:List UInt8) (t:Nat):Nat:=(p.getD (4 * t) 0).toNat * 16777216+(p.getD (4 * t+1) 0).toNat * 65536+(p.getD (4 * t+2) 0).toNat * 256+(p.getD (4 * t+3) 0).toNat
theorem be4_lt (p:List UInt8) (t:Nat):be4 p t < 4294967296:=by
 unfold be4
 have h0:=(p.getD (4 * t) 0).toNat_lt
 have h1:=(p.getD (4 * t+1) 0).toNat_lt
 have h2:=(p.getD (4 * t+2) 0).toNat_lt
 have h3:=(p.getD (4 * t+3) 0).toNat_lt
 omega
def shaNext (w:List Nat):Nat:=(shaS1 (w.getD (w.length - 2) 0)+w.getD (w.length - 7) 0+shaS0 (w.getD (w.length - 15) 0)+w.getD (w.length - 16) 0) % 4294967296
def sched (p:List UInt8):Nat→List Nat
 | 0=>[]
 | n+1=>sched p n++[if n < 16 then be4 p n else shaNext (sched p n)]
theorem sched_length (p:List UInt8):∀ n,(sched p n).length=n
 | 0=>rfl
 | n+1=>by simp [sched,sched_length p n]
theorem sched_lt (p:List UInt8):∀ n,∀ x∈sched p n,x < 4294967296
 | 0,x,h=>by simp [sched] at h
 | n+1,x,h=>by
  simp only [sched,List.mem_append,List.mem_singleton] at h
  rcases h with h | h
  ·exact sched_lt p n x h
  ·subst h
   split
   ·exact be4_lt p n
   ·exact Nat.mod_lt _ (by omega)
def shaOne (s:S8) (k w:Nat):Nat:=(s.h+shaB1 s.e+shaCh s.e s.f s.g+k+w) % 4294967296
def shaTwo (s:S8):Nat:=(shaB0 s.a+shaMaj s.a s.b s.c) % 4294967296
def shaRound (s:S8) (k w:Nat):S8:=⟨(shaOne s k w+shaTwo s) % 4294967296,s.a,s.b,s.c,(s.d+shaOne s k w) % 4294967296,s.e,s.f,s.g⟩
def shaRun (s:S8) (w:List Nat):Nat→S8
 | 0=>s
 | n+1=>shaRound (shaRun s w n) (shaK.getD n 0) (w.getD n 0)
def S8.add (s t:S8):S8:=⟨(s.a+t.a) % 4294967296,(s.b+t.b) % 4294967296,(s.c+t.c) % 4294967296,(s.d+t.d) % 4294967296,(s.e+t.e) % 4294967296,(s.f+t.f) % 4294967296,(s.g+t.g) % 4294967296,(s.h+t.h) % 4294967296⟩
def shaBlock (s:S8) (p:List UInt8):S8:=s.add (shaRun s (sched p 64) 64)
theorem S8.add_ok (s t:S8):(s.add t).ok:=by
 refine ⟨?_,?_,?_,?_,?_,?_,?_,?_⟩ <;> exact Nat.mod_lt _ (by omega)
theorem shaRound_ok {s:S8} (h:s.ok) (k w:Nat):(shaRound s k w).ok:=by
 obtain ⟨h1,h2,h3,h4,h5,h6,h7,h8⟩:=h
 exact ⟨Nat.mod_lt _ (by omega),h1,h2,h3,Nat.mod_lt _ (by omega),h5,h6,h7⟩
theorem shaRun_ok {s:S8} (h:s.ok) (w:List Nat):∀ n,(shaRun s w n).ok
 | 0=>h
 | n+1=>shaRound_ok (shaRun_ok h w n) _ _
theorem shaIV_ok:shaIV.ok:=by refine ⟨?_,?_,?_,?_,?_,?_,?_,?_⟩ <;> decide
def shaBlocks (s:S8) (p:List UInt8):Nat→S8
 | 0=>s
 | n+1=>shaBlock (shaBlocks s p n) ((p.drop (64 * n)).take 64)
theorem shaBlocks_ok {s:S8} (h:s.ok) (p:List UInt8):∀ n,(shaBlocks s p n).ok
 | 0=>h
 | n+1=>S8.add_ok _ _
def beN:Nat→Nat→List UInt8
 | 0,_=>[]
 | n+1,v=>beN n (v / 256)++[UInt8.ofNat (v % 256)]
theorem beN_length:∀ n v,(beN n v).length=n
 | 0,_=>rfl
 | n+1,v=>by simp [beN,beN_length n]
def shaPad (m:List UInt8):List UInt8:=m++(128 :: (List.replicate ((55+64 - m.length % 64) % 64) 0++beN 8 (m.length * 8 % 18446744073709551616)))
def S8.bytes (s:S8):List UInt8:=beN 4 s.a++beN 4 s.b++beN 4 s.c++beN 4 s.d++beN 4 s.e++beN 4 s.f++beN 4 s.g++beN 4 s.h
def shaL (m:List UInt8):List UInt8:=(shaBlocks shaIV (shaPad m) ((shaPad m).length / 64)).bytes
theorem shaL_length (m:List UInt8):(shaL m).length=32:=by simp [shaL,S8.bytes,beN_length]
theorem shaPad_length (m:List UInt8):(shaPad m).length % 64=0:=by
 simp [shaPad,beN_length]
 omega
open Go
structure Sup where
 width:Int
 gen:Int
 mark:Int
 head:Int
 pages:Int
deriving DecidableEq
def Sup.valid (s:Sup):Bool:=decide (1≤s.width) && decide (s.width≤32) && decide (0≤s.gen) && decide (s.gen≤1099511627776) && decide (3≤s.pages) && decide (s.pages≤4096) && decide (2≤s.mark) && decide (s.mark≤s.pages) && (decide (s.head=0) || (decide (2≤s.head) && decide (s.head < s.mark)))
def supHead (s:Sup):List UInt8:=[76,68,71,49]++[UInt8.ofNat s.width.toNat,0,0,0]++leN 8 s.gen.toNat++leN 4 s.mark.toNat++leN 4 s.head.toNat++leN 4 s.pages.toNat++List.replicate 32 0
def supL (s:Sup):List UInt8:=sealL (supHead s)++List.replicate 192 0
theorem supHead_length (s:Sup):(supHead s).length=60:=by simp [supHead,leN_length]
theorem supL_length (s:Sup):(supL s).length=256:=by rw [supL,List.length_append,sealL_length,supHead_length,List.length_replicate]
def zSup:Sup:=⟨0,0,0,0,0⟩
def zeroB (l:List UInt8):Bool:=!l.any (· != 0)
def unsupL (raw:List UInt8):Int × Sup :=
 if raw.length≠256 then (53,zSup) else
 if wholeL (raw.take 64)=false then (52,zSup) else
 if (raw.take 4 == [76,68,71,49] && zeroB ((raw.drop 5).take 3) && zeroB ((raw.drop 28).take 32) && zeroB ((raw.drop 15).take 1))=false then (53,zSup) else
 if (⟨((raw.getD 4 0).toNat:Int),(unLe ((raw.drop 8).take 7):Int),(unLe ((raw.drop 16).take 4):Int),(unLe ((raw.drop 20).take 4):Int),(unLe ((raw.drop 24).take 4):Int)⟩:Sup).valid=false then (53,zSup) else
 (0,⟨(raw.getD 4 0).toNat,unLe ((raw.drop 8).take 7),unLe ((raw.drop 16).take 4),unLe ((raw.drop 20).take 4),unLe ((raw.drop 24).take 4)⟩)
def emptyL (raw:List UInt8):Bool:=raw.length == 256 && zeroB (raw.take 64)
def newerL (a b:Sup):Int × Sup :=
 if a.gen % 2≠0∨b.gen % 2≠1 then (4,zSup) else
 let x:=if a.gen < b.gen then b else a
 let y:=if a.gen < b.gen then a else b
 if ({ y with gen:=y.gen+1,mark:=x.mark,head:=x.head }:Sup)≠x∨x.mark < y.mark then (4,zSup) else (0,x)
def chooseL (a b:List UInt8):Int × Sup :=
 if (unsupL a).1=0∧(unsupL b).1=0 then newerL (unsupL a).2 (unsupL b).2 else
 if emptyL b=false then (4,zSup) else
 if ((unsupL a).1=0∧(unsupL a).2.gen=0)∨emptyL a=true then (55,zSup) else (4,zSup)
theorem leN_7 {v:Nat} (h:v < 256 ^ 7):leN 8 v=leN 7 v++[0]:=by
 simp only [leN,List.cons_append,List.nil_append,List.cons.injEq,true_and]
 refine ⟨?_,trivial⟩
 have:v / 256 / 256 / 256 / 256 / 256 / 256 / 256=0:=by omega
 rw [this]
 rfl
theorem sup_split (s:Sup) (hg:s.gen.toNat < 256 ^ 7):∃ sum,sum.length=4∧supL s=[76,68,71,49]++([UInt8.ofNat s.width.toNat]++([0,0,0]++(leN 7 s.gen.toNat++([0]++(leN 4 s.mark.toNat++(leN 4 s.head.toNat++(leN 4 s.pages.toNat++(List.replicate 32 0++(sum++List.replicate 192 0))))))))):=by
 refine ⟨leN 4 (crcL (supHead s)),leN_length _ _,?_⟩
 obtain ⟨c,hc⟩:∃ c,c=crcL (supHead s):=⟨_,rfl⟩
 rw [supL,sealL,← hc,supHead,leN_7 hg]
 generalize List.replicate 32 (0:UInt8)=z1
 generalize List.replicate 192 (0:UInt8)=z2
 simp only [List.append_assoc,List.cons_append,List.nil_append]
theorem zeroB_rep (n:Nat):zeroB (List.replicate n 0)=true:=by simp [zeroB]
theorem unsup_sup {s:Sup} (h:s.valid=true):unsupL (supL s)=(0,s):=by
 have hv:=h
 unfold Sup.valid at hv
 simp only [Bool.and_eq_true,Bool.or_eq_true,decide_eq_true_eq] at hv
 obtain ⟨⟨⟨⟨⟨⟨⟨⟨h1,h2⟩,h3⟩,h4⟩,h5⟩,h6⟩,h7⟩,h8⟩,h9⟩:=hv
 have hg:s.gen.toNat < 256 ^ 7:=by have:(256:Nat) ^ 7=72057594037927936:=rfl;omega
 obtain ⟨sum,hs,e⟩:=sup_split s hg
 have hl:=supL_length s
 have w64:wholeL ((supL s).take 64)=true:=by
  have:(supL s).take 64=sealL (supHead s):=by
   rw [supL,List.take_left' (by rw [sealL_length,supHead_length])]
  rw [this]
  exact whole_seal _
 obtain ⟨z1,hz1⟩:∃ z,z=List.replicate 32 (0:UInt8):=⟨_,rfl⟩
 obtain ⟨z2,hz2⟩:∃ z,z=List.replicate 192 (0:UInt8):=⟨_,rfl⟩
 obtain ⟨q1,hq1⟩:∃ q,q=leN 7 s.gen.toNat:=⟨_,rfl⟩
 obtain ⟨q2,hq2⟩:∃ q,q=leN 4 s.mark.toNat:=⟨_,rfl⟩
 obtain ⟨q3,hq3⟩:∃ q,q=leN 4 s.head.toNat:=⟨_,rfl⟩
 obtain ⟨q4,hq4⟩:∃ q,q=leN 4 s.pages.toNat:=⟨_,rfl⟩
 have l0:z1.length=32:=by rw [hz1,List.length_replicate]
 have l1:q1.length=7:=by rw [hq1,leN_length]
 have l2:q2.length=4:=by rw [hq2,leN_length]
 have l3:q3.length=4:=by rw [hq3,leN_length]
 have l4:q4.length=4:=by rw [hq4,leN_length]
 rw [← hz1,← hz2,← hq1,← hq2,← hq3,← hq4] at e
 have u1:=unLe_leN 7 _ hg
 have u2:=unLe_leN 4 s.mark.toNat (by omega)
 have u3:=unLe_leN 4 s.head.toNat (by omega)
 have u4:=unLe_leN 4 s.pages.toNat (by omega)
 rw [← hq1] at u1
 rw [← hq2] at u2
 rw [← hq3] at u3
 rw [← hq4] at u4
 have t0:(supL s).take 4=[76,68,71,49]:=by rw [e];rfl
 have t4:(supL s).getD 4 0=UInt8.ofNat s.width.toNat:=by rw [e];rfl
 have t5:((supL s).drop 5).take 3=[0,0,0]:=by rw [e];rfl
 have d8:(supL s).drop 8=q1++([0]++(q2++(q3++(q4++(z1++(sum++z2)))))):=by rw [e];rfl
 have t8:((supL s).drop 8).take 7=q1:=by rw [d8,List.take_left' l1]
 have d15:(supL s).drop 15=[0]++(q2++(q3++(q4++(z1++(sum++z2))))):=by rw [show (15:Nat)=8+7 from rfl,← List.drop_drop,d8,List.drop_left' l1]
 have t15:((supL s).drop 15).take 1=[0]:=by rw [d15];rfl
 have d16:(supL s).drop 16=q2++(q3++(q4++(z1++(sum++z2)))):=by rw [show (16:Nat)=15+1 from rfl,← List.drop_drop,d15];rfl
 have t16:((supL s).drop 16).take 4=q2:=by rw [d16,List.take_left' l2]
 have d20:(supL s).drop 20=q3++(q4++(z1++(sum++z2))):=by rw [show (20:Nat)=16+4 from rfl,← List.drop_drop,d16,List.drop_left' l2]
 have t20:((supL s).drop 20).take 4=q3:=by rw [d20,List.take_left' l3]
 have d24:(supL s).drop 24=q4++(z1++(sum++z2)):=by rw [show (24:Nat)=20+4 from rfl,← List.drop_drop,d20,List.drop_left' l3]
 have t24:((supL s).drop 24).take 4=q4:=by rw [d24,List.take_left' l4]
 have d28:(supL s).drop 28=z1++(sum++z2):=by rw [show (28:Nat)=24+4 from rfl,← List.drop_drop,d24,List.drop_left' l4]
 have t28:((supL s).drop 28).take 32=z1:=by rw [d28,List.take_left' l0]
 have k4:(UInt8.ofNat s.width.toNat).toNat=s.width.toNat:=by rw [UInt8.toNat_ofNat'];omega
 have es:(⟨((UInt8.ofNat s.width.toNat).toNat:Int),(unLe q1:Int),(unLe q2:Int),(unLe q3:Int),(unLe q4:Int)⟩:Sup)=s:=by
  rw [k4,u1,u2,u3,u4]
  cases s
  simp only [Sup.mk.injEq] at *
  omega
 unfold unsupL
 rw [t0,t4,t5,t8,t15,t16,t20,t24,t28,w64,hl,es,hz1,zeroB_rep]
 rw [if_neg (by simp),if_neg (by simp),if_neg (by decide),if_neg (by rw [h];simp)]
theorem unsup_zero:(unsupL (List.replicate 256 0)).1=52:=by decide +kernel
theorem empty_zero:emptyL (List.replicate 256 0)=true:=by decide +kernel
theorem choose_blank:chooseL (List.replicate 256 0) (List.replicate 256 0)=(55,zSup):=by
 unfold chooseL
 rw [unsup_zero,empty_zero,if_neg (by omega),if_neg (by simp),if_pos (.inr rfl)]
theorem choose_two {a b:Sup} (ha:a.valid=true) (hb:b.valid=true) (hg:a.gen+1=b.gen) (hw:a.width=b.width) (hp:a.pages=b.pages) (hm:a.mark≤b.mark) :
  (a.gen % 2=0→chooseL (supL a) (supL b)=(0,b))∧(a.gen % 2=1→chooseL (supL b) (supL a)=(0,b)):=by
 have e:({ a with gen:=a.gen+1,mark:=b.mark,head:=b.head }:Sup)=b:=by
  cases a;cases b
  simp only [Sup.mk.injEq] at *
  simp [hg,hw,hp]
 have e2:¬ (({ a with gen:=a.gen+1,mark:=b.mark,head:=b.head }:Sup)≠b∨b.mark < a.mark):=by
  rintro (h3 | h3)
  ·exact h3 e
  ·omega
 constructor
 ·intro h2
  unfold chooseL
  rw [unsup_sup ha,unsup_sup hb,if_pos ⟨rfl,rfl⟩]
  show newerL a b=(0,b)
  have c1:a.gen < b.gen:=by omega
  have c2:¬ (a.gen % 2≠0∨b.gen % 2≠1):=by omega
  unfold newerL
  simp only [if_pos c1]
  rw [if_neg c2,if_neg e2]
 ·intro h2
  unfold chooseL
  rw [unsup_sup ha,unsup_sup hb,if_pos ⟨rfl,rfl⟩]
  show newerL b a=(0,b)
  have c1:¬ b.gen < a.gen:=by omega
  have c2:¬ (b.gen % 2≠0∨a.gen % 2≠1):=by omega
  unfold newerL
  simp only [if_neg c1]
  rw [if_neg c2,if_neg e2]
end Go.Proofs.YtakaocenbempmaaGreatDoor
