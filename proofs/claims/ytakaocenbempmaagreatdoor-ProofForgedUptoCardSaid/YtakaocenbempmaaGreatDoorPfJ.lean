/-
  Lemmas of a claim, bundle J: XKeyP.
-/
import Derived.Lib.BitFns
set_option linter.unusedVariables false
set_option linter.unusedSimpArgs false
namespace Go.Proofs.YtakaocenbempmaaGreatDoor
open Go
def bitK (k:List UInt8) (i:Nat):Nat:=(k.getD (i / 8) 0).toNat / 2 ^ (7 - i % 8) % 2
theorem bitK_lt (k:List UInt8) (i:Nat):bitK k i < 2:=Nat.mod_lt _ (by omega)
theorem bitK_cases (k:List UInt8) (i:Nat):bitK k i=0∨bitK k i=1:=by have:=bitK_lt k i;omega
def commonFrom (a b:List UInt8):Nat→Nat→Nat
 | 0,i=>i
 | f+1,i=>if bitK a i=bitK b i then commonFrom a b f (i+1) else i
def commonK (a b:List UInt8):Nat:=commonFrom a b 256 0
theorem commonFrom_spec (a b:List UInt8):∀ f i,i≤commonFrom a b f i∧commonFrom a b f i≤i+f∧(∀ j,i≤j→j < commonFrom a b f i→bitK a j=bitK b j)∧(commonFrom a b f i < i+f→bitK a (commonFrom a b f i)≠bitK b (commonFrom a b f i))
 | 0,i=>⟨Nat.le_refl _,Nat.le_refl _,fun j h1 h2=>by simp only [commonFrom] at h2;omega,fun h=>by simp only [commonFrom] at h;omega⟩
 | f+1,i=>by
  unfold commonFrom
  by_cases h:bitK a i=bitK b i
  ·rw [if_pos h]
   obtain ⟨h1,h2,h3,h4⟩:=commonFrom_spec a b f (i+1)
   refine ⟨by omega,by omega,fun j hj hj2=>?_,fun hl=>h4 (by omega)⟩
   by_cases e:j=i
   ·subst e;exact h
   ·exact h3 j (by omega) hj2
  ·rw [if_neg h]
   exact ⟨Nat.le_refl _,by omega,fun j h1 h2=>by omega,fun _=>h⟩
theorem commonK_le (a b:List UInt8):commonK a b≤256:=by have:=(commonFrom_spec a b 256 0).2.1;unfold commonK;omega
theorem commonK_same {a b:List UInt8} {j:Nat} (h:j < commonK a b):bitK a j=bitK b j:=(commonFrom_spec a b 256 0).2.2.1 j (Nat.zero_le _) h
theorem commonK_diff {a b:List UInt8} (h:commonK a b < 256):bitK a (commonK a b)≠bitK b (commonK a b):=(commonFrom_spec a b 256 0).2.2.2 (by unfold commonK at h;omega)
theorem commonK_unique {a b:List UInt8} {n:Nat} (hn:n≤256) (h1:∀ j,j < n→bitK a j=bitK b j) (h2:n < 256→bitK a n≠bitK b n):commonK a b=n:=by
 have hle:=commonK_le a b
 rcases Nat.lt_trichotomy (commonK a b) n with h | h | h
 ·exact absurd (h1 _ h) (commonK_diff (by omega))
 ·exact h
 ·exact absurd (commonK_same h) (h2 (by omega))
theorem byte_ext {x y:UInt8} (h:∀ j,j < 8→x.toNat / 2 ^ (7 - j) % 2=y.toNat / 2 ^ (7 - j) % 2):x=y:=by
 apply UInt8.toNat_inj.1
 have hx:=x.toNat_lt
 have hy:=y.toNat_lt
 have h0:=h 0 (by omega)
 have h1:=h 1 (by omega)
 have h2:=h 2 (by omega)
 have h3:=h 3 (by omega)
 have h4:=h 4 (by omega)
 have h5:=h 5 (by omega)
 have h6:=h 6 (by omega)
 have h7:=h 7 (by omega)
 simp at h0 h1 h2 h3 h4 h5 h6 h7
 omega
theorem bits_ext {a b:List UInt8} (ha:a.length=32) (hb:b.length=32) (h:∀ j,j < 256→bitK a j=bitK b j):a=b:=by
 apply List.ext_getElem (by rw [ha,hb])
 intro i h1 h2
 apply byte_ext
 intro j hj
 have:=h (8 * i+j) (by omega)
 unfold bitK at this
 rw [show (8 * i+j) / 8=i by omega,show (8 * i+j) % 8=j by omega,List.getD_eq_getElem?_getD,List.getD_eq_getElem?_getD,List.getElem?_eq_getElem h1,List.getElem?_eq_getElem h2] at this
 simpa using this
theorem commonK_eq {a b:List UInt8} (ha:a.length=32) (hb:b.length=32):commonK a b=256↔a=b:=by
 constructor
 ·intro h
  exact bits_ext ha hb (fun j hj=>commonK_same (by omega))
 ·rintro rfl
  exact commonK_unique (Nat.le_refl _) (fun _ _=>rfl) (fun h=>by omega)
theorem top_bit:∀ z:Fin 256,z.val≠0→Lib.bitLen z.val≤8∧1≤Lib.bitLen z.val∧(∀ j:Fin 8,j.val < 8 - Lib.bitLen z.val→z.val.testBit (7 - j.val)=false)∧z.val.testBit (7 - (8 - Lib.bitLen z.val))=true:=by decide +kernel
theorem div_bit (x k:Nat):x / 2 ^ k % 2=(x.testBit k).toNat:=by
 rw [Nat.testBit_eq_decide_div_mod_eq]
 have:=Nat.mod_lt (x / 2 ^ k) (show 0 < 2 by omega)
 by_cases h:x / 2 ^ k % 2=1
 ·simp [h]
 ·have:x / 2 ^ k % 2=0:=by omega
  simp [this]
theorem byte_first {x y:Nat} (hx:x < 256) (hy:y < 256) (hne:x≠y) :
  1≤Lib.bitLen (x ^^^ y)∧Lib.bitLen (x ^^^ y)≤8∧(∀ j,j < 8 - Lib.bitLen (x ^^^ y)→x / 2 ^ (7 - j) % 2=y / 2 ^ (7 - j) % 2)∧x / 2 ^ (7 - (8 - Lib.bitLen (x ^^^ y))) % 2≠y / 2 ^ (7 - (8 - Lib.bitLen (x ^^^ y))) % 2:=by
 have hz:x ^^^ y < 256:=Nat.xor_lt_two_pow (n:=8) hx hy
 have hz0:x ^^^ y≠0:=fun e=>hne (Nat.eq_of_testBit_eq fun i=>by have:=congrArg (fun n=>n.testBit i) e;simpa [Nat.testBit_xor] using this)
 obtain ⟨h1,h2,h3,h4⟩:=top_bit ⟨x ^^^ y,hz⟩ hz0
 simp only at h1 h2 h3 h4
 refine ⟨h2,h1,fun j hj=>?_,?_⟩
 ·have:=h3 ⟨j,by omega⟩ hj
  rw [Nat.testBit_xor] at this
  rw [div_bit,div_bit]
  revert this
  cases x.testBit (7 - j) <;> cases y.testBit (7 - j) <;> simp
 ·rw [Nat.testBit_xor] at h4
  rw [div_bit,div_bit]
  revert h4
  cases x.testBit (7 - (8 - Lib.bitLen (x ^^^ y))) <;> cases y.testBit (7 - (8 - Lib.bitLen (x ^^^ y))) <;> simp
theorem common_byte {a b:List UInt8} {i:Nat} (hi:i < 32) (hs:∀ j,j < i→a.getD j 0=b.getD j 0) (hne:a.getD i 0≠b.getD i 0) :
  commonK a b=8 * i+(8 - Lib.bitLen ((a.getD i 0).toNat ^^^ (b.getD i 0).toNat)):=by
 obtain ⟨h1,h2,h3,h4⟩:=byte_first (a.getD i 0).toNat_lt (b.getD i 0).toNat_lt (fun e=>hne (UInt8.toNat_inj.1 e))
 generalize hl:Lib.bitLen ((a.getD i 0).toNat ^^^ (b.getD i 0).toNat)=l at *
 refine commonK_unique (by omega) (fun j hj=>?_) (fun _=>?_)
 ·unfold bitK
  by_cases hji:j / 8 < i
  ·rw [hs _ hji]
  ·rw [show j / 8=i by omega]
   exact h3 (j % 8) (by omega)
 ·unfold bitK
  rw [show (8 * i+(8 - l)) / 8=i by omega,show (8 * i+(8 - l)) % 8=8 - l by omega]
  exact h4
end Go.Proofs.YtakaocenbempmaaGreatDoor
