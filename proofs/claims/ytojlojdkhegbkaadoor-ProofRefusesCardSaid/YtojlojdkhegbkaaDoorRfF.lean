/-
  Lemmas of a claim, bundle F: XFrA XShA XShB XFrB XFrQ XSup XFrD XFrE.
-/
import Derived.Great.Walk
import Derived.Test.YtojlojdkhegbkaaDoorRfA
import Derived.Test.YtojlojdkhegbkaaDoorRfE
import Derived.Test.YtojlojdkhegbkaaDoorRfB
import Derived.Deep.CutBlock
import Derived.Deep.DeepCutAuto
import Derived.Deep.MidRow
import Derived.Laws.IdiomStrings
/-
  Package frame: put, get, allZero.
-/
namespace Go.Proofs.YtojlojdkhegbkaaDoor
set_option linter.unusedVariables false
set_option linter.unusedSimpArgs false
open Go.RowKit

/-- A block of bytes. -/
def Blk (w : World) (g : Nat) (ty : TypeId) (l : List UInt8) : Prop := w.heap[g]? = some (.cells (l.map B).toArray ty (0, 0))
theorem Blk.cell {w : World} {g : Nat} {ty : TypeId} {l : List UInt8} (h : Blk w g ty l) (i : Nat) (hi : i < l.length) : w.cell? ⟨g, i, none⟩ = some (B l[i]) := by
  rw [cell_of_row w g i _ _ _ h]
  simp [hi]
theorem Blk.free {w : World} {g : Nat} {ty : TypeId} {l : List UInt8} (h : Blk w g ty l) (i : Nat) : w.frozen? ⟨g, i, none⟩ = false := frozen_of_row w g i _ _ h
theorem Blk.lt {w : World} {g : Nat} {ty : TypeId} {l : List UInt8} (h : Blk w g ty l) : g < w.heap.size := lt_of_heap h
theorem Blk.set {w : World} {g : Nat} {ty : TypeId} {l : List UInt8} (h : Blk w g ty l) (i : Nat) (x : UInt8) : Blk (w.setCell ⟨g, i, none⟩ (B x)) g ty (l.set i x) := by
  have := heap_setCell_same w g i _ ty (B x) h
  unfold Blk
  rw [this]
  simp
theorem Blk.keeps {w w' : World} {g : Nat} {ty : TypeId} {l : List UInt8} {F : List Nat} (h : Blk w g ty l) (hk : Keeps F w w') (hg : g ∉ F) : Blk w' g ty l := (hk.block g h.lt hg).trans h
/-- A part laid over. -/
def over (l : List UInt8) (o : Nat) (xs : List UInt8) : List UInt8 := l.take o ++ xs ++ l.drop (o + xs.length)
theorem over_length {l : List UInt8} {o : Nat} {xs : List UInt8} (h : o + xs.length ≤ l.length) : (over l o xs).length = l.length := by
  simp [over]; omega
theorem over_nil (l : List UInt8) (o : Nat) : over l o [] = l := by simp [over]
theorem over_snoc {l : List UInt8} {o : Nat} {xs : List UInt8} {x : UInt8} (h : o + xs.length < l.length) : (over l o xs).set (o + xs.length) x = over l o (xs ++ [x]) := by
  unfold over
  have e1 : (l.take o ++ xs).length = o + xs.length := by rw [List.length_append, List.length_take]; omega
  rw [List.set_append_right _ _ (by omega), e1, Nat.sub_self]
  rw [List.drop_eq_getElem_cons h, List.set_cons_zero]
  simp [Nat.add_assoc]
theorem leN_snoc : ∀ n v, leN (n + 1) v = leN n v ++ [UInt8.ofNat (v / 256 ^ n % 256)]
  | 0, v => by simp [leN]
  | n + 1, v => by
    rw [leN, leN_snoc n (v / 256), leN]
    simp [Nat.div_div_eq_div_mul, Nat.pow_succ, Nat.mul_comm]
theorem leN_take : ∀ k n v, k ≤ n → leN k v = (leN n v).take k
  | 0, n, v, _ => by simp [leN]
  | k + 1, 0, v, h => absurd h (by omega)
  | k + 1, n + 1, v, h => by rw [leN, leN, List.take_succ_cons, ← leN_take k n _ (by omega)]
set_option maxRecDepth 100000 in
set_option maxHeartbeats 1000000 in
theorem put_any {w : World} {g : Nat} {ty : TypeId} {l : List UInt8} (o n N c v : Nat) (h : Blk w g ty l) (hn : n ≤ 8) (hN : n ≤ N) (ho : o + n ≤ l.length) (hl : l.length ≤ 16777216) (hv : v < 9223372036854775808) :
    Calls Tryd.prog 75 #[.slice (some ⟨g, o, none⟩) N c, .int .i64 v, .int .i64 n] w fun e w' => e = .returned (.tuple #[]) ∧ Blk w' g ty (over l o (leN n v)) ∧ Keeps [g] w w' := by
  have HB := Lib.hid h
  clear h
  go_enter Tryd.func75, Tryd.ntmps75
  go_wp2_with fail
  go_loopw [8] (fun iv wr => ∃ k : Nat, k ≤ n ∧ iv = .int .i64 k ∧ Blk wr g ty (over l o (leN k v)) ∧ Keeps [g] w wr) (fun iv _ => n - (intOf iv).toNat)
  case atStart => exact ⟨0, Nat.zero_le _, rfl, by rw [show leN 0 v = [] from rfl, over_nil]; exact HB.out, Keeps.refl _ _⟩
  case round =>
    obtain ⟨k, hk, rfl, hb, hkr⟩ := hrel
    have hb' := Lib.hid hb
    have HKR := Lib.hid hkr
    have k0 : (0 : Int) ≤ (k : Int) := by omega
    clear hb hkr
    by_cases hlt : k < n
    · have k1 : (k : Int) < (n : Int) := by omega
      have k2 : (k : Int) < (N : Int) := by omega
      have hlen : (over l o (leN k v)).length = l.length := over_length (by rw [leN_length]; omega)
      obtain ⟨u0, hcell⟩ : ∃ u, wr.cell? ⟨g, o + k, none⟩ = some u := ⟨_, hb'.out.cell (o + k) (by omega)⟩
      have hfz := hb'.out.free (o + k)
      obtain ⟨x, hx⟩ : ∃ x, x = UInt8.ofNat (v / 256 ^ k % 256) := ⟨_, rfl⟩
      have hxv : ((v : Int) / 2 ^ (8 * k) % 256) = (x.toNat : Int) := by
        rw [hx, UInt8.toNat_ofNat', Nat.mod_mod, show (256 : Nat) ^ k = 2 ^ (8 * k) by rw [Nat.pow_mul]]
        simp only [Int.natCast_emod, Int.natCast_ediv, Int.natCast_pow]
        rfl
      obtain ⟨xn, hxn⟩ : ∃ xn, xn = x.toNat := ⟨_, rfl⟩
      rw [← hxn] at hxv
      have HX := Lib.hid hx
      have HXN := Lib.hid hxn
      clear hx hxn hlen
      go_wp2_with fail
      go_roundw
      case rel =>
        refine ⟨k + 1, by omega, by go_num, ?_, HKR.out.setCell (.inl (by simp)) _⟩
        have := hb'.out.set (o + k) x
        have e := over_snoc (l := l) (o := o) (xs := leN k v) (x := x) (by rw [leN_length]; omega)
        rw [leN_length] at e
        rw [e, HX.out, ← leN_snoc, ← HX.out] at this
        rw [HXN.out]
        exact this
      case measure => simp [intOf]; omega
    · have k1 : ¬ (k : Int) < (n : Int) := by omega
      have e : k = n := by omega
      subst e
      go_wp2_with fail
      exact Go.Great.bodyPost_end0 rfl rfl ⟨rfl, hb'.out, HKR.out⟩
theorem zeroB_take_succ {l : List UInt8} {k : Nat} (h : k < l.length) : zeroB (l.take (k + 1)) = (zeroB (l.take k) && l[k] == 0) := by
  rw [List.take_succ_eq_append_getElem h]
  unfold zeroB
  rw [List.any_append]
  simp only [List.any_cons, List.any_nil, Bool.or_false, Bool.not_or]
  congr 1
  simp [bne]
theorem zeroB_false {l : List UInt8} {k : Nat} (h : k < l.length) (hx : l[k] ≠ 0) : zeroB l = false := by
  unfold zeroB
  rw [Bool.not_eq_false']
  exact List.any_eq_true.mpr ⟨l[k], List.getElem_mem h, by simpa using hx⟩
set_option maxRecDepth 100000 in
set_option maxHeartbeats 1000000 in
theorem allZero_any {w : World} {v : Value} {l : List UInt8} (hv : BytesAt w v l) :
    Calls Tryd.prog 83 #[v] w fun e w' => e = .returned (.bool (zeroB l)) ∧ w = w' := by
  obtain ⟨a, c, rfl, hc, hm⟩ := hv.form
  unfold maxLen at hm
  obtain ⟨n, hn⟩ : ∃ n, n = l.length := ⟨_, rfl⟩
  have hbyte : ∀ k (h : k < l.length), ∃ gb ob, a = some ⟨gb, ob, none⟩ ∧ w.cell? ⟨gb, ob + k, none⟩ = some (.int .u8 l[k].toNat) := fun k h => by
    obtain ⟨gb, ob, rfl, hgb, hrb⟩ := hv.at (by omega)
    exact ⟨gb, ob, rfl, range_byte hrb rfl (List.getElem?_eq_getElem h)⟩
  have HB := Lib.hid hbyte
  have HN := Lib.hid hn
  rw [← hn] at hc ⊢
  clear hv hn hbyte
  go_enter Tryd.func83, Tryd.ntmps83
  go_wp2_with fail
  go_loop [7] (fun iv => ∃ k : Nat, k ≤ n ∧ iv = .int .i64 k ∧ zeroB (l.take k) = true) (fun iv => n - (intOf iv).toNat)
  case atStart => exact ⟨0, Nat.zero_le _, rfl, rfl⟩
  case round =>
    obtain ⟨k, hk, rfl, hz⟩ := hrel
    have HZ := Lib.hid hz
    have k0 : (0 : Int) ≤ (k : Int) := by omega
    clear hz
    by_cases hlt : k < n
    · have k1 : (k : Int) < (n : Int) := by omega
      have hkl : k < l.length := by rw [← HN.out]; exact hlt
      obtain ⟨gb, ob, rfl, hcb⟩ := HB.out k hkl
      obtain ⟨x, hx⟩ : ∃ x, x = l[k] := ⟨_, rfl⟩
      rw [← hx] at hcb
      obtain ⟨xn, hxn⟩ : ∃ xn, xn = x.toNat := ⟨_, rfl⟩
      rw [← hxn] at hcb
      by_cases h0 : xn = 0
      · subst h0
        have hz1 : zeroB (l.take (k + 1)) = true := by
          rw [zeroB_take_succ hkl, HZ.out, ← hx, Bool.true_and, beq_iff_eq]
          exact UInt8.toNat_inj.mp hxn.symm
        have HZ1 := Lib.hid hz1
        clear hz1 hx hxn
        go_wp2_with fail
        go_round
        case rel => exact ⟨k + 1, by omega, by go_num, HZ1.out⟩
        case measure => simp [intOf]; omega
      · have hzf : zeroB l = false := zeroB_false hkl (by rw [← hx]; intro e; subst e; exact h0 hxn)
        have HZF := Lib.hid hzf
        have x0 : ¬ (xn : Int) = 0 := by omega
        clear hzf hx hxn
        go_wp2_with fail
        go_ret
        exact ⟨by rw [HZF.out]; rfl, rfl⟩
    · have k1 : ¬ (k : Int) < (n : Int) := by omega
      have hz1 : zeroB l = true := by rw [← HZ.out, List.take_of_length_le (by rw [← HN.out]; omega)]
      have HZ1 := Lib.hid hz1
      clear hz1
      go_wp2_with fail
      go_ret
      exact ⟨by rw [HZ1.out]; rfl, rfl⟩
theorem bits_or_i64 {a b : Nat} (ha : a < 9223372036854775808) (hb : b < 9223372036854775808) : bits .or .i64 (a : Int) (b : Int) = ((a ||| b : Nat) : Int) := by
  have hx : a ||| b < 2 ^ 63 := Nat.or_lt_two_pow (by omega) (by omega)
  show IntKind.i64.wrap ((BitVec.ofInt 64 (a : Int) ||| BitVec.ofInt 64 (b : Int)).toNat : Int) = _
  have e : ∀ x : Nat, x < 9223372036854775808 → (BitVec.ofInt 64 (x : Int)).toNat = x := fun x hx => by
    rw [BitVec.ofInt_natCast, BitVec.toNat_ofNat]; exact Nat.mod_eq_of_lt (by omega)
  rw [BitVec.toNat_or, e a ha, e b hb]
  exact IntWalk.i64_in _ (by omega)
theorem or_low {a b : Nat} (hb : b < 256) : a * 256 ||| b = a * 256 + b := by
  have := Nat.two_pow_add_eq_or_of_lt (i := 8) (b := b) (by omega) a
  rw [show (2 : Nat) ^ 8 = 256 from rfl] at this
  rw [Nat.mul_comm a 256]
  exact this.symm
theorem drop_take_cons {l : List UInt8} {k n : Nat} (hk : k < n) (hn : n ≤ l.length) : (l.take n).drop k = l[k]'(by omega) :: (l.take n).drop (k + 1) := by
  have h : k < (l.take n).length := by rw [List.length_take]; omega
  rw [List.drop_eq_getElem_cons h, List.getElem_take]
set_option maxRecDepth 100000 in
set_option maxHeartbeats 1000000 in
theorem get_any {w : World} {v : Value} {l : List UInt8} (n : Nat) (hv : BytesAt w v l) (hn7 : n ≤ 7) (hn : n ≤ l.length) :
    Calls Tryd.prog 84 #[v, .int .i64 n] w fun e w' => e = .returned (.int .i64 (unLe (l.take n))) ∧ w = w' := by
  obtain ⟨a, c, rfl, hc, hm⟩ := hv.form
  unfold maxLen at hm
  obtain ⟨N, hN⟩ : ∃ N, N = l.length := ⟨_, rfl⟩
  have hbyte : ∀ k (h : k < l.length), ∃ gb ob, a = some ⟨gb, ob, none⟩ ∧ w.cell? ⟨gb, ob + k, none⟩ = some (.int .u8 l[k].toNat) := fun k h => by
    obtain ⟨gb, ob, rfl, hgb, hrb⟩ := hv.at (by omega)
    exact ⟨gb, ob, rfl, range_byte hrb rfl (List.getElem?_eq_getElem h)⟩
  have HB := Lib.hid hbyte
  have HN := Lib.hid hN
  rw [← hN] at hc hn ⊢
  clear hv hN hbyte
  go_enter Tryd.func84, Tryd.ntmps84
  go_wp2_with fail
  go_loop [5, 6] (fun vv iv => ∃ k V : Nat, k ≤ n ∧ iv = .int .i64 ((k : Int) - 1) ∧ vv = .int .i64 V ∧ V = unLe ((l.take n).drop k) ∧ V < 256 ^ (n - k)) (fun _ iv => (intOf iv + 1).toNat)
  case atStart => exact ⟨n, 0, Nat.le_refl _, by go_num, rfl, by rw [List.drop_of_length_le (by rw [List.length_take]; omega)]; rfl, by simp⟩
  case round =>
    obtain ⟨k, V, hk, rfl, rfl, hV, hVl⟩ := hrel
    have HV := Lib.hid hV
    have HVL := Lib.hid hVl
    clear hV hVl
    cases k with
    | zero =>
      have HF := Lib.hid (show V = unLe (l.take n) by rw [HV.out]; rfl)
      go_wp2_with fail
      go_ret
      exact ⟨by rw [← HF.out]; rfl, rfl⟩
    | succ k =>
      have k0 : (0 : Int) ≤ (k : Int) := by omega
      have k1 : (k : Int) < (N : Int) := by omega
      have kk : ((k + 1 : Nat) : Int) - 1 = (k : Int) := by omega
      have hkl : k < l.length := by rw [← HN.out]; omega
      obtain ⟨gb, ob, rfl, hcb⟩ := HB.out k hkl
      obtain ⟨x, hx⟩ : ∃ x, x = l[k] := ⟨_, rfl⟩
      rw [← hx] at hcb
      obtain ⟨xn, hxn⟩ : ∃ xn, xn = x.toNat := ⟨_, rfl⟩
      have hx8 : xn < 256 := by rw [hxn]; exact x.toNat_lt
      rw [← hxn] at hcb
      have hvl : V < 72057594037927936 / 256 := by
        have h1 := HVL.out
        have h2 : (256 : Nat) ^ (n - (k + 1)) ≤ 256 ^ 6 := Nat.pow_le_pow_right (by omega) (by omega)
        have h3 : (256 : Nat) ^ 6 = 72057594037927936 / 256 := rfl
        omega
      have hV1 : V * 256 + xn = unLe ((l.take n).drop k) := by
        rw [drop_take_cons (by omega) (by rw [← HN.out]; exact hn), unLe, ← HV.out, ← hx, ← hxn]
        omega
      have hV2 : V * 256 + xn < 256 ^ (n - k) := by
        have h1 := HVL.out
        rw [show n - k = (n - (k + 1)) + 1 by omega, Nat.pow_succ]
        omega
      have eo : bits BinOp.or IntKind.i64 ((V : Int) * 256) (xn : Int) = ((V * 256 + xn : Nat) : Int) := by
        rw [← or_low hx8]
        exact bits_or_i64 (a := V * 256) (b := xn) (by omega) (by omega)
      have v0 : (V : Int) * 256 ≤ 9223372036854775807 := by omega
      have v1 : (0 : Int) ≤ (V : Int) * 256 := by omega
      have HV1 := Lib.hid hV1
      have HV2 := Lib.hid hV2
      have lx : (l[k].toNat : Int) = (xn : Int) := by rw [hxn, hx]
      clear hV1 hV2 hx hxn HB
      rw [kk]
      go_wp2_with fail
      go_round
      case rel => exact ⟨k, _, by omega, rfl, rfl, HV1.out, HV2.out⟩
      case measure => simp [intOf]
end Go.Proofs.YtojlojdkhegbkaaDoor

/-
  Package digest: the turn of a word (math/bits.RotateLeft32).
-/
namespace Go.Proofs.YtojlojdkhegbkaaDoor
set_option linter.unusedVariables false
set_option linter.unusedSimpArgs false
open Go.RowKit

theorem and31_u64 (k : Int) : bits .and .u64 (IntKind.u64.wrap k) 31 = k % 32 := by
  have hw : IntKind.u64.wrap k = k % 18446744073709551616 := by simp [IntKind.wrap, IntKind.bits, IntKind.signed]
  obtain ⟨a, ha⟩ : ∃ a : Nat, (a : Int) = k % 18446744073709551616 := ⟨(k % 18446744073709551616).toNat, by omega⟩
  rw [hw, ← ha]
  have hal : a < 18446744073709551616 := by omega
  have hx : a &&& 31 = a % 32 := Nat.and_two_pow_sub_one_eq_mod a 5
  show IntKind.u64.wrap ((BitVec.ofInt 64 (a : Int) &&& BitVec.ofInt 64 (31 : Int)).toNat : Int) = _
  have e1 : (BitVec.ofInt 64 (a : Int)).toNat = a := by rw [BitVec.ofInt_natCast, BitVec.toNat_ofNat]; exact Nat.mod_eq_of_lt hal
  have e2 : (BitVec.ofInt 64 (31 : Int)).toNat = 31 := by decide
  rw [BitVec.toNat_and, e1, e2, hx]
  have : IntKind.u64.wrap ((a % 32 : Nat) : Int) = ((a % 32 : Nat) : Int) := by
    simp only [IntKind.wrap, IntKind.bits, IntKind.signed]
    simp
    omega
  rw [this]
  omega
set_option maxRecDepth 100000 in
set_option maxHeartbeats 800000 in
theorem rot_any {w : World} (x s : Nat) (k : Int) (hx : x < 4294967296) (hk : k % 32 = (s : Int)) (h0 : 0 < s) (h1 : s < 32) :
    Calls Tryd.prog 81 #[.int .u32 x, .int .i64 k] w fun e w' => e = .returned (.int .u32 (rotl x s)) ∧ w = w' := by
  have e1 := and31_u64 k
  rw [hk] at e1
  clear hk
  go_enter Tryd.func81, Tryd.ntmps81
  go_wp2_with fail

  go_ret
  have e2 : ((x : Int) * 2 ^ s % 4294967296) = ((x * 2 ^ s % 4294967296 : Nat) : Int) := by simp only [Int.natCast_emod, Int.natCast_mul, Int.natCast_pow]; rfl
  have e3 : ((x : Int) / 2 ^ (32 - s)) = ((x / 2 ^ (32 - s) : Nat) : Int) := by simp only [Int.natCast_ediv, Int.natCast_pow]; rfl
  refine ⟨?_, rfl⟩
  show Ending.returned (.int .u32 (bits BinOp.or IntKind.u32 ((x : Int) * 2 ^ s % 4294967296) ((x : Int) / 2 ^ (32 - s)))) = _
  rw [e2, e3, bits_or_u32 (Nat.mod_lt _ (by omega)) (Nat.lt_of_le_of_lt (Nat.div_le_self _ _) hx)]
  rfl
/-- Words of 32 bits as a block. -/
def W32 (n : Nat) : Value := .int .u32 n
def Wds (w : World) (g : Nat) (t : TypeId) (l : List Nat) : Prop := w.heap[g]? = some (.cells (l.map W32).toArray t (0, 0))
theorem Wds.cell {w : World} {g : Nat} {t : TypeId} {l : List Nat} (h : Wds w g t l) (i : Nat) (hi : i < l.length) : w.cell? ⟨g, i, none⟩ = some (.int .u32 (l.getD i 0 : Nat)) := by
  rw [cell_of_row w g i _ _ _ h, List.getD_eq_getElem?_getD, List.getElem?_eq_getElem hi]
  simp [hi, W32]
theorem Wds.free {w : World} {g : Nat} {t : TypeId} {l : List Nat} (h : Wds w g t l) (i : Nat) : w.frozen? ⟨g, i, none⟩ = false := frozen_of_row w g i _ _ h
theorem Wds.lt {w : World} {g : Nat} {t : TypeId} {l : List Nat} (h : Wds w g t l) : g < w.heap.size := lt_of_heap h
theorem Wds.set {w : World} {g : Nat} {t : TypeId} {l : List Nat} (h : Wds w g t l) (i x : Nat) : Wds (w.setCell ⟨g, i, none⟩ (.int .u32 x)) g t (l.set i x) := by
  have := heap_setCell_same w g i _ t (.int .u32 x) h
  unfold Wds
  rw [this]
  simp [W32]
theorem Wds.keeps {w w' : World} {g : Nat} {t : TypeId} {l : List Nat} {F : List Nat} (h : Wds w g t l) (hk : Keeps F w w') (hg : g ∉ F) : Wds w' g t l := (hk.block g h.lt hg).trans h
end Go.Proofs.YtojlojdkhegbkaaDoor

/-
  Package digest: step, the first sixteen words of a block's schedule.
-/
namespace Go.Proofs.YtojlojdkhegbkaaDoor
set_option linter.unusedVariables false
set_option linter.unusedSimpArgs false
open Go.RowKit

theorem be_bits {a b c d : Nat} (ha : a < 256) (hb : b < 256) (hc : c < 256) (hd : d < 256) :
    bits .or .u32 (bits .or .u32 (bits .or .u32 ((a : Int) * 16777216) ((b : Int) * 65536)) ((c : Int) * 256)) (d : Int) = ((a * 16777216 + b * 65536 + c * 256 + d : Nat) : Int) := by
  have e1 : ((a : Int) * 16777216) = ((a * 16777216 : Nat) : Int) := by omega
  have e2 : ((b : Int) * 65536) = ((b * 65536 : Nat) : Int) := by omega
  have e3 : ((c : Int) * 256) = ((c * 256 : Nat) : Int) := by omega
  have o1 : a * 16777216 ||| b * 65536 = a * 16777216 + b * 65536 := by
    have := Nat.two_pow_add_eq_or_of_lt (i := 24) (b := b * 65536) (by omega) a
    rw [show (2 : Nat) ^ 24 = 16777216 from rfl, Nat.mul_comm 16777216 a] at this
    exact this.symm
  have o2 : (a * 16777216 + b * 65536) ||| c * 256 = a * 16777216 + b * 65536 + c * 256 := by
    have := Nat.two_pow_add_eq_or_of_lt (i := 16) (b := c * 256) (by omega) (a * 256 + b)
    rw [show (2 : Nat) ^ 16 * (a * 256 + b) = a * 16777216 + b * 65536 by omega] at this
    exact this.symm
  have o3 : (a * 16777216 + b * 65536 + c * 256) ||| d = a * 16777216 + b * 65536 + c * 256 + d := by
    have := Nat.two_pow_add_eq_or_of_lt (i := 8) (b := d) (by omega) (a * 65536 + b * 256 + c)
    rw [show (2 : Nat) ^ 8 * (a * 65536 + b * 256 + c) = a * 16777216 + b * 65536 + c * 256 by omega] at this
    exact this.symm
  rw [e1, e2, e3, bits_or_u32 (by omega) (by omega), o1, bits_or_u32 (by omega) (by omega), o2, bits_or_u32 (by omega) (by omega), o3]
theorem sched_set {p : List UInt8} {k X : Nat} (hk : k < 64) : (sched p k ++ List.replicate (64 - k) 0).set k X = sched p k ++ [X] ++ List.replicate (64 - (k + 1)) 0 := by
  rw [List.set_append_right _ _ (by rw [sched_length]; exact Nat.le_refl _), sched_length, Nat.sub_self, show 64 - k = (64 - (k + 1)) + 1 by omega, List.replicate_succ, List.set_cons_zero]
  simp
theorem sched_succ_lt {p : List UInt8} {k : Nat} (hk : k < 16) : sched p (k + 1) = sched p k ++ [be4 p k] := by rw [sched, if_pos hk]
theorem sched_succ_ge {p : List UInt8} {k : Nat} (hk : 16 ≤ k) : sched p (k + 1) = sched p k ++ [shaNext (sched p k)] := by rw [sched, if_neg (by omega)]
theorem cell_sets_of' {w : World} {b j : Nat} {t : TypeId} {cs : Array Value} (h : w.heap[b]? = some (.cells cs t (0, 0))) {v : Value} (hv : cs[j]? = some v) : w.cell? ⟨b, j, none⟩ = some v := by
  rw [cell_of_row w b j _ _ _ h]; exact hv
/-- The first k words of l, each with m's word added. -/
def addW (l m : List Nat) (k : Nat) : List Nat := (List.range 8).map fun i => if i < k then (l.getD i 0 + m.getD i 0) % 4294967296 else l.getD i 0
theorem add_cell {w : World} {g j x : Nat} {l : List Nat} {rest : List Value} {t : TypeId} (h : w.heap[g]? = some (.cells ((l.map W32) ++ rest).toArray t (0, 0))) (hj : j < l.length) :
    (w.setCell ⟨g, j, none⟩ (.int .u32 x)).heap[g]? = some (.cells (((l.set j x).map W32) ++ rest).toArray t (0, 0)) := by
  rw [heap_setCell_same w g j _ t _ h]
  simp only [List.setIfInBounds_toArray, List.map_set]
  rw [List.set_append_left _ _ (by simpa using hj)]
  rfl
def S8.words (s : S8) : List Nat := [s.a, s.b, s.c, s.d, s.e, s.f, s.g, s.h]
/-- The two tables of package digest, as its text lays them. -/
structure Tabs (w : World) : Prop where
  round : ∀ i, i < 64 → w.cell? ⟨1, i, none⟩ = some (.int .u32 (shaK.getD i 0 : Nat))
  begin : ∀ i, i < 8 → w.cell? ⟨0, i, none⟩ = some (.int .u32 (shaIV.words.getD i 0 : Nat))
  lt : 1 < w.heap.size ∧ 0 < w.heap.size
theorem Tabs.keeps {w w' : World} {F : List Nat} (h : Tabs w) (hk : Keeps F w w') (h1 : 1 ∉ F) (h2 : 0 ∉ F) : Tabs w' :=
  ⟨fun i hi => (World.cell?_of_block (w := w) (w' := w') (a := ⟨1, i, none⟩) (hk.block _ h.lt.1 h1)).trans (h.round i hi), fun i hi => (World.cell?_of_block (w := w) (w' := w') (a := ⟨0, i, none⟩) (hk.block _ h.lt.2 h2)).trans (h.begin i hi), by have := hk.size; have := h.lt; omega⟩
set_option maxRecDepth 100000 in
set_option maxHeartbeats 6400000 in
theorem step_any {w : World} {g gp op cp : Nat} {s : S8} {p : List UInt8} {rest : List Value} (hp : w.rangeAt gp op (p.map B)) (hpl : p.length = 64) (hpg : gp < w.heap.size) (hcp : 64 ≤ cp) (hcm : cp ≤ 9223372036854775807) (hs : s.ok)
    (hg : w.heap[g]? = some (.cells ((s.words.map W32) ++ rest).toArray 126 (0, 0))) (hk : Tabs w) (hgr : g ≠ 1) :
    Calls Tryd.prog 69 #[.pointer (some ⟨g, 0, none⟩), .slice (some ⟨gp, op, none⟩) 64 cp] w fun e w' => e = .returned (.tuple #[]) ∧ w'.heap[g]? = some (.cells (((shaBlock s p).words.map W32) ++ rest).toArray 126 (0, 0)) ∧ Keeps [g] w w' := by
  obtain ⟨w1, hw1⟩ : ∃ x, x = w.alloc (.cells #[.int .u32 0, .int .u32 0, .int .u32 0, .int .u32 0, .int .u32 0, .int .u32 0, .int .u32 0, .int .u32 0, .int .u32 0, .int .u32 0, .int .u32 0, .int .u32 0, .int .u32 0, .int .u32 0, .int .u32 0, .int .u32 0, .int .u32 0, .int .u32 0, .int .u32 0, .int .u32 0, .int .u32 0, .int .u32 0, .int .u32 0, .int .u32 0, .int .u32 0, .int .u32 0, .int .u32 0, .int .u32 0, .int .u32 0, .int .u32 0, .int .u32 0, .int .u32 0, .int .u32 0, .int .u32 0, .int .u32 0, .int .u32 0, .int .u32 0, .int .u32 0, .int .u32 0, .int .u32 0, .int .u32 0, .int .u32 0, .int .u32 0, .int .u32 0, .int .u32 0, .int .u32 0, .int .u32 0, .int .u32 0, .int .u32 0, .int .u32 0, .int .u32 0, .int .u32 0, .int .u32 0, .int .u32 0, .int .u32 0, .int .u32 0, .int .u32 0, .int .u32 0, .int .u32 0, .int .u32 0, .int .u32 0, .int .u32 0, .int .u32 0, .int .u32 0] 160 (0, 0)) := ⟨_, rfl⟩
  obtain ⟨gw, hgw⟩ : ∃ x, x = w.heap.size := ⟨_, rfl⟩
  have hz : Wds w1 gw 160 (List.replicate 64 0) := by rw [hw1]; exact heap_new_at hgw
  have k1 : Keeps [] w w1 := by rw [hw1]; exact (Keeps.refl _ _).alloc _
  have hbyte : ∀ wx, Keeps [gw] w1 wx → ∀ i, i < 64 → wx.cell? ⟨gp, op + i, none⟩ = some (.int .u8 ((p.getD i 0).toNat : Nat)) := fun wx hk i hi => by
    have hb : wx.heap[gp]? = w.heap[gp]? := (hk.block gp (by have := k1.size; omega) (by simp; omega)).trans (k1.block gp hpg (by simp))
    exact range_byte hp hb (by rw [List.getD_eq_getElem?_getD, List.getElem?_eq_getElem (by omega)]; rfl)
  have HB := Lib.hid hbyte
  have HZ := Lib.hid hz
  have HK1 := Lib.hid k1
  have HW := Lib.hid hw1
  have HG := Lib.hid hgw
  have HS := Lib.hid hs
  have hgl := lt_of_heap hg
  have hst : ∀ wx, Keeps [gw] w1 wx → wx.heap[g]? = some (.cells ((s.words.map W32) ++ rest).toArray 126 (0, 0)) := fun wx h => (h.block g (by have := k1.size; omega) (by simp; omega)).trans ((k1.block g hgl (by simp)).trans hg)
  have htab : ∀ wx, Keeps [gw] w1 wx → ∀ i, i < 64 → wx.cell? ⟨1, i, none⟩ = some (.int .u32 (shaK.getD i 0 : Nat)) := fun wx h => ((hk.keeps k1 (by simp) (by simp)).keeps h (by have := hk.lt; simp; omega) (by have := hk.lt; simp; omega)).round
  have HST := Lib.hid hst
  have HTAB := Lib.hid htab
  have HGL := Lib.hid (show g < w.heap.size ∧ w.heap.size ≤ gw from ⟨hgl, by omega⟩)
  clear hp hpl hpg hs hw1 hgw hz k1 hbyte hg hk hgr hgl hst htab
  go_enter Tryd.func69, Tryd.ntmps69
  go_upto_region 1 with fail
  rw [← HW.out, ← HG.out]
  go_wp2_with fail
  go_loopw [24] (fun iv wr => ∃ k : Nat, k ≤ 16 ∧ iv = .int .i64 k ∧ Wds wr gw 160 (sched p k ++ List.replicate (64 - k) 0) ∧ Keeps [gw] w1 wr) (fun iv _ => 16 - (intOf iv).toNat)
  case atStart => exact ⟨0, Nat.zero_le _, rfl, HZ.out, Keeps.refl _ _⟩
  case round =>
    obtain ⟨k, hk, rfl, hws, hkr⟩ := hrel
    have HWS := Lib.hid hws
    have HKR := Lib.hid hkr
    clear hws hkr
    have k0 : (0 : Int) ≤ (k : Int) := by omega
    by_cases hlt : k < 16
    · have k1 : (k : Int) < 16 := by omega
      obtain ⟨a, ha⟩ : ∃ a, a = (p.getD (4 * k) 0).toNat := ⟨_, rfl⟩
      obtain ⟨b, hb⟩ : ∃ b, b = (p.getD (4 * k + 1) 0).toNat := ⟨_, rfl⟩
      obtain ⟨c, hc⟩ : ∃ c, c = (p.getD (4 * k + 2) 0).toNat := ⟨_, rfl⟩
      obtain ⟨d, hd⟩ : ∃ d, d = (p.getD (4 * k + 3) 0).toNat := ⟨_, rfl⟩
      have ba : a < 256 := by rw [ha]; exact UInt8.toNat_lt _
      have bb : b < 256 := by rw [hb]; exact UInt8.toNat_lt _
      have bc : c < 256 := by rw [hc]; exact UInt8.toNat_lt _
      have bd : d < 256 := by rw [hd]; exact UInt8.toNat_lt _
      have hcell : ∀ wx, Keeps [gw] w1 wx → wx.cell? ⟨gp, op + 4 * k, none⟩ = some (.int .u8 a) ∧ wx.cell? ⟨gp, op + (4 * k + 1), none⟩ = some (.int .u8 b) ∧ wx.cell? ⟨gp, op + (4 * k + 2), none⟩ = some (.int .u8 c) ∧ wx.cell? ⟨gp, op + (4 * k + 3), none⟩ = some (.int .u8 d) := fun wx h => by
        rw [ha, hb, hc, hd]
        exact ⟨HB.out wx h _ (by omega), HB.out wx h _ (by omega), HB.out wx h _ (by omega), HB.out wx h _ (by omega)⟩
      have HC := Lib.hid hcell
      obtain ⟨X, hX⟩ : ∃ X, X = a * 16777216 + b * 65536 + c * 256 + d := ⟨_, rfl⟩
      have eb := be_bits ba bb bc bd
      rw [← hX] at eb
      have HX := Lib.hid (show X = be4 p k by rw [hX, ha, hb, hc, hd]; rfl)
      clear ha hb hc hd hX hcell
      go_upto_region 4 with fail
      have w0 : IntKind.i64.wrap (4 * (k : Int)) = 4 * (k : Int) := IntWalk.i64_in _ (by omega)
      have w1' : IntKind.i64.wrap (4 * (k : Int) + 1) = 4 * (k : Int) + 1 := IntWalk.i64_in _ (by omega)
      have w2' : IntKind.i64.wrap (4 * (k : Int) + 2) = 4 * (k : Int) + 2 := IntWalk.i64_in _ (by omega)
      have w3' : IntKind.i64.wrap (4 * (k : Int) + 3) = 4 * (k : Int) + 3 := IntWalk.i64_in _ (by omega)
      have t0 : (4 * (k : Int)).toNat = 4 * k := by omega
      have t1 : (4 * (k : Int) + 1).toNat = 4 * k + 1 := by omega
      have t2 : (4 * (k : Int) + 2).toNat = 4 * k + 2 := by omega
      have t3 : (4 * (k : Int) + 3).toNat = 4 * k + 3 := by omega
      have b0 : (0 : Int) ≤ 4 * (k : Int) := by omega
      have b1 : (0 : Int) ≤ 4 * (k : Int) + 1 := by omega
      have b2 : (0 : Int) ≤ 4 * (k : Int) + 2 := by omega
      have b3 : (0 : Int) ≤ 4 * (k : Int) + 3 := by omega
      have d0 : 4 * (k : Int) < 64 := by omega
      have d1 : 4 * (k : Int) + 1 < 64 := by omega
      have d2 : 4 * (k : Int) + 2 < 64 := by omega
      have d3 : 4 * (k : Int) + 3 < 64 := by omega
      have ua : IntKind.u32.wrap (a : Int) = (a : Int) := by rw [wrap_u32']; omega
      have ub : IntKind.u32.wrap (b : Int) = (b : Int) := by rw [wrap_u32']; omega
      have uc : IntKind.u32.wrap (c : Int) = (c : Int) := by rw [wrap_u32']; omega
      have ud : IntKind.u32.wrap (d : Int) = (d : Int) := by rw [wrap_u32']; omega
      have va : IntKind.u32.wrap ((a : Int) * 16777216) = (a : Int) * 16777216 := by rw [wrap_u32']; omega
      have vb : IntKind.u32.wrap ((b : Int) * 65536) = (b : Int) * 65536 := by rw [wrap_u32']; omega
      have vc : IntKind.u32.wrap ((c : Int) * 256) = (c : Int) * 256 := by rw [wrap_u32']; omega
      clear ba bb bc bd
      refine wp_region_held_drew (S := (fun w' => w'.cell? ⟨gp, op + 4 * k, none⟩ = some (.int .u8 a) ∧ w'.cell? ⟨gp, op + (4 * k + 1), none⟩ = some (.int .u8 b) ∧ w'.cell? ⟨gp, op + (4 * k + 2), none⟩ = some (.int .u8 c) ∧ w'.cell? ⟨gp, op + (4 * k + 3), none⟩ = some (.int .u8 d))) (by kernel_rfl) ?_ (fun hHeld => ?_)
      · exact HC.out wr.drew HKR.out.drew
      have l64 : (sched p k ++ List.replicate (64 - k) 0).length = 64 := by rw [List.length_append, sched_length, List.length_replicate]; omega
      have L64 := Lib.hid l64
      clear l64
      have cw := HWS.out.cell k (by rw [L64.out]; omega)
      have fw := HWS.out.free k
      have kw : (k : Int) < 64 := by omega
      refine' wpAnyH_take (i := 0) (v := _) rfl (by kernel_rfl) (by kernel_rfl) (by kernel_rfl) (fun _ _ _ h => h) (Or.inl ⟨by rfl, ?_⟩) (by assumption) ?_
      rotate_left 1
      · (intro w0 hSw; (try dsimp only at hSw); go_split_ands; go_simp; (try with_reducible rfl))
      try simp only [Act.put, List.setIfInBounds_toArray, List.set_cons_zero, List.set_cons_succ, List.getElem_toArray, List.getElem_cons_zero, List.getElem_cons_succ]
      refine' wpAnyH_take (i := 1) (v := _) rfl (by kernel_rfl) (by kernel_rfl) (by kernel_rfl) (fun _ _ _ h => h) (Or.inl ⟨by rfl, ?_⟩) (by assumption) ?_
      rotate_left 1
      · (intro w0 hSw; (try dsimp only at hSw); go_split_ands; go_simp; (try with_reducible rfl))
      try simp only [Act.put, List.setIfInBounds_toArray, List.set_cons_zero, List.set_cons_succ, List.getElem_toArray, List.getElem_cons_zero, List.getElem_cons_succ]
      refine' wpAnyH_take (i := 2) (v := _) rfl (by kernel_rfl) (by kernel_rfl) (by kernel_rfl) (fun _ _ _ h => h) (Or.inl ⟨by rfl, ?_⟩) (by assumption) ?_
      rotate_left 1
      · (intro w0 hSw; (try dsimp only at hSw); go_split_ands; go_simp; (try with_reducible rfl))
      try simp only [Act.put, List.setIfInBounds_toArray, List.set_cons_zero, List.set_cons_succ, List.getElem_toArray, List.getElem_cons_zero, List.getElem_cons_succ]
      refine' wpAnyH_take (i := 3) (v := _) rfl (by kernel_rfl) (by kernel_rfl) (by kernel_rfl) (fun _ _ _ h => h) (Or.inl ⟨by rfl, ?_⟩) (by assumption) ?_
      rotate_left 1
      · (intro w0 hSw; (try dsimp only at hSw); go_split_ands; go_simp; (try with_reducible rfl))
      try simp only [Act.put, List.setIfInBounds_toArray, List.set_cons_zero, List.set_cons_succ, List.getElem_toArray, List.getElem_cons_zero, List.getElem_cons_succ]
      refine' wpAnyH_take (i := 4) (v := _) rfl (by kernel_rfl) (by kernel_rfl) (by kernel_rfl) (fun _ _ _ h => h) (Or.inl ⟨by rfl, ?_⟩) (by assumption) ?_
      rotate_left 1
      · (intro w0 hSw; (try dsimp only at hSw); go_split_ands; go_simp; (try with_reducible rfl))
      try simp only [Act.put, List.setIfInBounds_toArray, List.set_cons_zero, List.set_cons_succ, List.getElem_toArray, List.getElem_cons_zero, List.getElem_cons_succ]
      refine' wpAnyH_take (i := 5) (v := _) rfl (by kernel_rfl) (by kernel_rfl) (by kernel_rfl) (fun _ _ _ h => h) (Or.inl ⟨by rfl, ?_⟩) (by assumption) ?_
      rotate_left 1
      · (intro w0 hSw; (try dsimp only at hSw); go_split_ands; go_simp; (try with_reducible rfl))
      try simp only [Act.put, List.setIfInBounds_toArray, List.set_cons_zero, List.set_cons_succ, List.getElem_toArray, List.getElem_cons_zero, List.getElem_cons_succ]
      refine' wpAnyH_take (i := 6) (v := _) rfl (by kernel_rfl) (by kernel_rfl) (by kernel_rfl) (fun _ _ _ h => h) (Or.inl ⟨by rfl, ?_⟩) (by assumption) ?_
      rotate_left 1
      · (intro w0 hSw; (try dsimp only at hSw); go_split_ands; go_simp; (try with_reducible rfl))
      try simp only [Act.put, List.setIfInBounds_toArray, List.set_cons_zero, List.set_cons_succ, List.getElem_toArray, List.getElem_cons_zero, List.getElem_cons_succ]
      refine' wpAnyH_take (i := 7) (v := _) rfl (by kernel_rfl) (by kernel_rfl) (by kernel_rfl) (fun _ _ _ h => h) (Or.inl ⟨by rfl, ?_⟩) (by assumption) ?_
      rotate_left 1
      · (intro w0 hSw; (try dsimp only at hSw); go_split_ands; go_simp; (try with_reducible rfl))
      try simp only [Act.put, List.setIfInBounds_toArray, List.set_cons_zero, List.set_cons_succ, List.getElem_toArray, List.getElem_cons_zero, List.getElem_cons_succ]
      refine' wpAnyH_take (i := 8) (v := _) rfl (by kernel_rfl) (by kernel_rfl) (by kernel_rfl) (fun _ _ _ h => h) (Or.inl ⟨by rfl, ?_⟩) (by assumption) ?_
      rotate_left 1
      · (intro w0 hSw; (try dsimp only at hSw); go_split_ands; go_simp; (try with_reducible rfl))
      try simp only [Act.put, List.setIfInBounds_toArray, List.set_cons_zero, List.set_cons_succ, List.getElem_toArray, List.getElem_cons_zero, List.getElem_cons_succ]
      refine' wpAnyH_take (i := 9) (v := _) rfl (by kernel_rfl) (by kernel_rfl) (by kernel_rfl) (fun _ _ _ h => h) (Or.inl ⟨by rfl, ?_⟩) (by assumption) ?_
      rotate_left 1
      · (intro w0 hSw; (try dsimp only at hSw); go_split_ands; go_simp; (try with_reducible rfl))
      try simp only [Act.put, List.setIfInBounds_toArray, List.set_cons_zero, List.set_cons_succ, List.getElem_toArray, List.getElem_cons_zero, List.getElem_cons_succ]
      refine' wpAnyH_take (i := 10) (v := _) rfl (by kernel_rfl) (by kernel_rfl) (by kernel_rfl) (fun _ _ _ h => h) (Or.inl ⟨by rfl, ?_⟩) (by assumption) ?_
      rotate_left 1
      · (intro w0 hSw; (try dsimp only at hSw); go_split_ands; go_simp; (try with_reducible rfl))
      try simp only [Act.put, List.setIfInBounds_toArray, List.set_cons_zero, List.set_cons_succ, List.getElem_toArray, List.getElem_cons_zero, List.getElem_cons_succ]
      refine' wpAnyH_take (i := 11) (v := _) rfl (by kernel_rfl) (by kernel_rfl) (by kernel_rfl) (fun _ _ _ h => h) (Or.inl ⟨by rfl, ?_⟩) (by assumption) ?_
      rotate_left 1
      · (intro w0 hSw; (try dsimp only at hSw); go_split_ands; go_simp; (try with_reducible rfl))
      try simp only [Act.put, List.setIfInBounds_toArray, List.set_cons_zero, List.set_cons_succ, List.getElem_toArray, List.getElem_cons_zero, List.getElem_cons_succ]
      refine' wpAnyH_take (i := 12) (v := _) rfl (by kernel_rfl) (by kernel_rfl) (by kernel_rfl) (fun _ _ _ h => h) (Or.inl ⟨by rfl, ?_⟩) (by assumption) ?_
      rotate_left 1
      · (intro w0 hSw; (try dsimp only at hSw); go_split_ands; go_simp; (try with_reducible rfl))
      try simp only [Act.put, List.setIfInBounds_toArray, List.set_cons_zero, List.set_cons_succ, List.getElem_toArray, List.getElem_cons_zero, List.getElem_cons_succ]
      refine' wpAnyH_take (i := 13) (v := _) rfl (by kernel_rfl) (by kernel_rfl) (by kernel_rfl) (fun _ _ _ h => h) (Or.inl ⟨by rfl, ?_⟩) (by assumption) ?_
      rotate_left 1
      · (intro w0 hSw; (try dsimp only at hSw); go_split_ands; go_simp; (try with_reducible rfl))
      try simp only [Act.put, List.setIfInBounds_toArray, List.set_cons_zero, List.set_cons_succ, List.getElem_toArray, List.getElem_cons_zero, List.getElem_cons_succ]
      refine' wpAnyH_take (i := 14) (v := _) rfl (by kernel_rfl) (by kernel_rfl) (by kernel_rfl) (fun _ _ _ h => h) (Or.inl ⟨by rfl, ?_⟩) (by assumption) ?_
      rotate_left 1
      · (intro w0 hSw; (try dsimp only at hSw); go_split_ands; go_simp; (try with_reducible rfl))
      try simp only [Act.put, List.setIfInBounds_toArray, List.set_cons_zero, List.set_cons_succ, List.getElem_toArray, List.getElem_cons_zero, List.getElem_cons_succ]
      refine' wpAnyH_take (i := 15) (v := _) rfl (by kernel_rfl) (by kernel_rfl) (by kernel_rfl) (fun _ _ _ h => h) (Or.inl ⟨by rfl, ?_⟩) (by assumption) ?_
      rotate_left 1
      · (intro w0 hSw; (try dsimp only at hSw); go_split_ands; go_simp; (try with_reducible rfl))
      try simp only [Act.put, List.setIfInBounds_toArray, List.set_cons_zero, List.set_cons_succ, List.getElem_toArray, List.getElem_cons_zero, List.getElem_cons_succ]
      refine' wpAnyH_take (i := 16) (v := _) rfl (by kernel_rfl) (by kernel_rfl) (by kernel_rfl) (fun _ _ _ h => h) (Or.inl ⟨by rfl, ?_⟩) (by assumption) ?_
      rotate_left 1
      · (intro w0 hSw; (try dsimp only at hSw); go_split_ands; go_simp; (try with_reducible rfl))
      try simp only [Act.put, List.setIfInBounds_toArray, List.set_cons_zero, List.set_cons_succ, List.getElem_toArray, List.getElem_cons_zero, List.getElem_cons_succ]
      refine' wpAnyH_take (i := 17) (v := _) rfl (by kernel_rfl) (by kernel_rfl) (by kernel_rfl) (fun _ _ _ h => h) (Or.inl ⟨by rfl, ?_⟩) (by assumption) ?_
      rotate_left 1
      · (intro w0 hSw; (try dsimp only at hSw); go_split_ands; go_simp; (try with_reducible rfl))
      try simp only [Act.put, List.setIfInBounds_toArray, List.set_cons_zero, List.set_cons_succ, List.getElem_toArray, List.getElem_cons_zero, List.getElem_cons_succ]
      refine' wpAnyH_take (i := 18) (v := _) rfl (by kernel_rfl) (by kernel_rfl) (by kernel_rfl) (fun _ _ _ h => h) (Or.inl ⟨by rfl, ?_⟩) (by assumption) ?_
      rotate_left 1
      · (intro w0 hSw; (try dsimp only at hSw); go_split_ands; go_simp; (try with_reducible rfl))
      try simp only [Act.put, List.setIfInBounds_toArray, List.set_cons_zero, List.set_cons_succ, List.getElem_toArray, List.getElem_cons_zero, List.getElem_cons_succ]
      refine' wpAnyH_take (i := 19) (v := _) rfl (by kernel_rfl) (by kernel_rfl) (by kernel_rfl) (fun _ _ _ h => h) (Or.inl ⟨by rfl, ?_⟩) (by assumption) ?_
      rotate_left 1
      · (intro w0 hSw; (try dsimp only at hSw); go_split_ands; go_simp; (try with_reducible rfl))
      try simp only [Act.put, List.setIfInBounds_toArray, List.set_cons_zero, List.set_cons_succ, List.getElem_toArray, List.getElem_cons_zero, List.getElem_cons_succ]
      refine' wpAnyH_take (i := 20) (v := _) rfl (by kernel_rfl) (by kernel_rfl) (by kernel_rfl) (fun _ _ _ h => h) (Or.inl ⟨by rfl, ?_⟩) (by assumption) ?_
      rotate_left 1
      · (intro w0 hSw; (try dsimp only at hSw); go_split_ands; go_simp; (try with_reducible rfl))
      try simp only [Act.put, List.setIfInBounds_toArray, List.set_cons_zero, List.set_cons_succ, List.getElem_toArray, List.getElem_cons_zero, List.getElem_cons_succ]
      refine' wpAnyH_take (i := 21) (v := _) rfl (by kernel_rfl) (by kernel_rfl) (by kernel_rfl) (fun _ _ _ h => h) (Or.inl ⟨by rfl, ?_⟩) (by assumption) ?_
      rotate_left 1
      · (intro w0 hSw; (try dsimp only at hSw); go_split_ands; go_simp; (try with_reducible rfl))
      try simp only [Act.put, List.setIfInBounds_toArray, List.set_cons_zero, List.set_cons_succ, List.getElem_toArray, List.getElem_cons_zero, List.getElem_cons_succ]
      refine' wpAnyH_take (i := 22) (v := _) rfl (by kernel_rfl) (by kernel_rfl) (by kernel_rfl) (fun _ _ _ h => h) (Or.inl ⟨by rfl, ?_⟩) (by assumption) ?_
      rotate_left 1
      · (intro w0 hSw; (try dsimp only at hSw); go_split_ands; go_simp; (try with_reducible rfl))
      try simp only [Act.put, List.setIfInBounds_toArray, List.set_cons_zero, List.set_cons_succ, List.getElem_toArray, List.getElem_cons_zero, List.getElem_cons_succ]
      refine' wpAnyH_take (i := 23) (v := _) rfl (by kernel_rfl) (by kernel_rfl) (by kernel_rfl) (fun _ _ _ h => h) (Or.inl ⟨by rfl, ?_⟩) (by assumption) ?_
      rotate_left 1
      · (intro w0 hSw; (try dsimp only at hSw); go_split_ands; go_simp; (try with_reducible rfl))
      try simp only [Act.put, List.setIfInBounds_toArray, List.set_cons_zero, List.set_cons_succ, List.getElem_toArray, List.getElem_cons_zero, List.getElem_cons_succ]
      refine' wpAnyH_take (i := 24) (v := _) rfl (by kernel_rfl) (by kernel_rfl) (by kernel_rfl) (fun _ _ _ h => h) (Or.inl ⟨by rfl, ?_⟩) (by assumption) ?_
      rotate_left 1
      · (intro w0 hSw; (try dsimp only at hSw); go_split_ands; go_simp; (try with_reducible rfl))
      try simp only [Act.put, List.setIfInBounds_toArray, List.set_cons_zero, List.set_cons_succ, List.getElem_toArray, List.getElem_cons_zero, List.getElem_cons_succ]
      refine' wpAnyH_take (i := 25) (v := _) rfl (by kernel_rfl) (by kernel_rfl) (by kernel_rfl) (fun _ _ _ h => h) (Or.inl ⟨by rfl, ?_⟩) (by assumption) ?_
      rotate_left 1
      · (intro w0 hSw; (try dsimp only at hSw); go_split_ands; go_simp; (try with_reducible rfl))
      try simp only [Act.put, List.setIfInBounds_toArray, List.set_cons_zero, List.set_cons_succ, List.getElem_toArray, List.getElem_cons_zero, List.getElem_cons_succ]
      refine' wpAnyH_take (i := 26) (v := _) rfl (by kernel_rfl) (by kernel_rfl) (by kernel_rfl) (fun _ _ _ h => h) (Or.inl ⟨by rfl, ?_⟩) (by assumption) ?_
      rotate_left 1
      · (intro w0 hSw; (try dsimp only at hSw); go_split_ands; go_simp; (try with_reducible rfl))
      try simp only [Act.put, List.setIfInBounds_toArray, List.set_cons_zero, List.set_cons_succ, List.getElem_toArray, List.getElem_cons_zero, List.getElem_cons_succ]
      refine' wpAnyH_take (i := 27) (v := _) rfl (by kernel_rfl) (by kernel_rfl) (by kernel_rfl) (fun _ _ _ h => h) (Or.inl ⟨by rfl, ?_⟩) (by assumption) ?_
      rotate_left 1
      · (intro w0 hSw; (try dsimp only at hSw); go_split_ands; go_simp; (try with_reducible rfl))
      try simp only [Act.put, List.setIfInBounds_toArray, List.set_cons_zero, List.set_cons_succ, List.getElem_toArray, List.getElem_cons_zero, List.getElem_cons_succ]
      refine' wpAnyH_take (i := 28) (v := _) rfl (by kernel_rfl) (by kernel_rfl) (by kernel_rfl) (fun _ _ _ h => h) (Or.inl ⟨by rfl, ?_⟩) (by assumption) ?_
      rotate_left 1
      · (intro w0 hSw; (try dsimp only at hSw); go_split_ands; go_simp; (try with_reducible rfl))
      try simp only [Act.put, List.setIfInBounds_toArray, List.set_cons_zero, List.set_cons_succ, List.getElem_toArray, List.getElem_cons_zero, List.getElem_cons_succ]
      refine' wpAnyH_take (i := 29) (v := _) rfl (by kernel_rfl) (by kernel_rfl) (by kernel_rfl) (fun _ _ _ h => h) (Or.inl ⟨by rfl, ?_⟩) (by assumption) ?_
      rotate_left 1
      · (intro w0 hSw; (try dsimp only at hSw); go_split_ands; go_simp; (try with_reducible rfl))
      try simp only [Act.put, List.setIfInBounds_toArray, List.set_cons_zero, List.set_cons_succ, List.getElem_toArray, List.getElem_cons_zero, List.getElem_cons_succ]
      refine' wpAnyH_take (i := 30) (v := _) rfl (by kernel_rfl) (by kernel_rfl) (by kernel_rfl) (fun _ _ _ h => h) (Or.inl ⟨by rfl, ?_⟩) (by assumption) ?_
      rotate_left 1
      · (intro w0 hSw; (try dsimp only at hSw); go_split_ands; go_simp; (try with_reducible rfl))
      try simp only [Act.put, List.setIfInBounds_toArray, List.set_cons_zero, List.set_cons_succ, List.getElem_toArray, List.getElem_cons_zero, List.getElem_cons_succ]
      refine' wpAnyH_take (i := 31) (v := _) rfl (by kernel_rfl) (by kernel_rfl) (by kernel_rfl) (fun _ _ _ h => h) (Or.inl ⟨by rfl, ?_⟩) (by assumption) ?_
      rotate_left 1
      · (intro w0 hSw; (try dsimp only at hSw); go_split_ands; go_simp; (try with_reducible rfl))
      try simp only [Act.put, List.setIfInBounds_toArray, List.set_cons_zero, List.set_cons_succ, List.getElem_toArray, List.getElem_cons_zero, List.getElem_cons_succ]
      refine' wpAnyH_take (i := 32) (v := _) rfl (by kernel_rfl) (by kernel_rfl) (by kernel_rfl) (fun _ _ _ h => h) (Or.inl ⟨by rfl, ?_⟩) (by assumption) ?_
      rotate_left 1
      · (intro w0 hSw; (try dsimp only at hSw); go_split_ands; go_simp; (try with_reducible rfl))
      try simp only [Act.put, List.setIfInBounds_toArray, List.set_cons_zero, List.set_cons_succ, List.getElem_toArray, List.getElem_cons_zero, List.getElem_cons_succ]
      refine' wpAnyH_take (i := 33) (v := _) rfl (by kernel_rfl) (by kernel_rfl) (by kernel_rfl) (fun _ _ _ h => h) (Or.inl ⟨by rfl, ?_⟩) (by assumption) ?_
      rotate_left 1
      · (intro w0 hSw; (try dsimp only at hSw); go_split_ands; go_simp; (try with_reducible rfl))
      try simp only [Act.put, List.setIfInBounds_toArray, List.set_cons_zero, List.set_cons_succ, List.getElem_toArray, List.getElem_cons_zero, List.getElem_cons_succ]
      refine' wpAnyH_take (i := 34) (v := _) rfl (by kernel_rfl) (by kernel_rfl) (by kernel_rfl) (fun _ _ _ h => h) (Or.inl ⟨by rfl, ?_⟩) (by assumption) ?_
      rotate_left 1
      · (intro w0 hSw; (try dsimp only at hSw); go_split_ands; go_simp; (try with_reducible rfl))
      try simp only [Act.put, List.setIfInBounds_toArray, List.set_cons_zero, List.set_cons_succ, List.getElem_toArray, List.getElem_cons_zero, List.getElem_cons_succ]
      refine wpAnyH_ready (rs := [35]) (by kernel_rfl) (by simp) ?_
      refine AllReadyH.cons rfl (fun K hK => ?_) AllReadyH.nil
      go_simp
      refine hK.out _ _ ?_ (fun hHeld => ?_)
      · exact HC.out _ ((HKR.out.setCell (.inl (by simp)) _).drew)
      clear hK K
      try simp only [Act.put, List.setIfInBounds_toArray, List.set_cons_zero, List.set_cons_succ, List.getElem_toArray, List.getElem_cons_zero, List.getElem_cons_succ]
      refine wpAnyH_done (by kernel_rfl) ?_ _
      clear hHeld
      go_wp2_with fail
      go_roundw
      case rel =>
        refine ⟨k + 1, by omega, by go_num, ?_, (HKR.out.setCell (.inl (by simp)) _).drew⟩
        have h := HWS.out.set k X
        rw [sched_set (by omega)] at h
        rw [sched_succ_lt hlt, ← HX.out]
        exact h
      case measure => simp [intOf]; omega
    · have k1 : ¬ (k : Int) < 16 := by omega
      obtain rfl : k = 16 := by omega
      have HW16 := Lib.hid HWS.out
      go_wp2_with fail
      go_loopw [6] (fun iv wr => ∃ k : Nat, 16 ≤ k ∧ k ≤ 64 ∧ iv = .int .i64 k ∧ Wds wr gw 160 (sched p k ++ List.replicate (64 - k) 0) ∧ Keeps [gw] w1 wr) (fun iv _ => 64 - (intOf iv).toNat)
      case atStart => exact ⟨16, by omega, by omega, rfl, HW16.out, HKR.out⟩
      case round =>
        obtain ⟨k, hk16, hk, rfl, hws, hkr⟩ := hrel
        have HWS := Lib.hid hws
        have HKR := Lib.hid hkr
        clear hws hkr k1 k0 HW16
        have k0 : (0 : Int) ≤ (k : Int) := by omega
        by_cases hlt : k < 64
        · have k1 : (k : Int) < 64 := by omega
          have l64 : (sched p k ++ List.replicate (64 - k) 0).length = 64 := by rw [List.length_append, sched_length, List.length_replicate]; omega
          have L64 := Lib.hid l64
          have hcell : ∀ wx, Keeps [] wr wx → ∀ j, j < 64 → wx.cell? ⟨gw, j, none⟩ = some (.int .u32 ((sched p k ++ List.replicate (64 - k) 0).getD j 0 : Nat)) := fun wx hkx j hj => (HWS.out.keeps hkx (by simp)).cell j (by rw [L64.out]; exact hj)
          have hgd : ∀ j, j < k → (sched p k ++ List.replicate (64 - k) 0).getD j 0 = (sched p k).getD j 0 := fun j hj => by
            rw [List.getD_eq_getElem?_getD, List.getElem?_append_left (by rw [sched_length]; exact hj), ← List.getD_eq_getElem?_getD]
          have hltw : ∀ j, j < k → (sched p k).getD j 0 < 4294967296 := fun j hj => by
            rw [List.getD_eq_getElem?_getD, List.getElem?_eq_getElem (by rw [sched_length]; exact hj)]
            exact sched_lt p k _ (List.getElem_mem _)
          obtain ⟨k2, i2⟩ : ∃ j : Nat, (k : Int) - 2 = (j : Int) := ⟨k - 2, by omega⟩
          obtain ⟨k7, i7⟩ : ∃ j : Nat, (k : Int) - 7 = (j : Int) := ⟨k - 7, by omega⟩
          obtain ⟨k15, i15⟩ : ∃ j : Nat, (k : Int) - 15 = (j : Int) := ⟨k - 15, by omega⟩
          obtain ⟨k16, i16⟩ : ∃ j : Nat, (k : Int) - 16 = (j : Int) := ⟨k - 16, by omega⟩
          obtain ⟨x, hx⟩ : ∃ x, x = (sched p k).getD k2 0 := ⟨_, rfl⟩
          obtain ⟨v, hv⟩ : ∃ x, x = (sched p k).getD k7 0 := ⟨_, rfl⟩
          obtain ⟨y, hy⟩ : ∃ x, x = (sched p k).getD k15 0 := ⟨_, rfl⟩
          obtain ⟨z, hz⟩ : ∃ x, x = (sched p k).getD k16 0 := ⟨_, rfl⟩
          have bx : x < 4294967296 := by rw [hx]; exact hltw _ (by omega)
          have bv : v < 4294967296 := by rw [hv]; exact hltw _ (by omega)
          have by' : y < 4294967296 := by rw [hy]; exact hltw _ (by omega)
          have bz : z < 4294967296 := by rw [hz]; exact hltw _ (by omega)
          have cells : ∀ wx, Keeps [] wr wx → wx.cell? ⟨gw, k2, none⟩ = some (.int .u32 x) ∧ wx.cell? ⟨gw, k7, none⟩ = some (.int .u32 v) ∧ wx.cell? ⟨gw, k15, none⟩ = some (.int .u32 y) ∧ wx.cell? ⟨gw, k16, none⟩ = some (.int .u32 z) := fun wx hkx => by
            rw [hx, hv, hy, hz, ← hgd k2 (by omega), ← hgd k7 (by omega), ← hgd k15 (by omega), ← hgd k16 (by omega)]
            exact ⟨hcell wx hkx _ (by omega), hcell wx hkx _ (by omega), hcell wx hkx _ (by omega), hcell wx hkx _ (by omega)⟩
          have HC := Lib.hid cells
          have R17 : ∀ wx, Calls Tryd.prog 81 #[.int .u32 x, .int .i64 (-17)] wx fun e w' => e = .returned (.int .u32 (rotl x 15)) ∧ wx = w' := fun wx => rot_any x 15 (-17) bx (by rfl) (by omega) (by omega)
          have R19 : ∀ wx, Calls Tryd.prog 81 #[.int .u32 x, .int .i64 (-19)] wx fun e w' => e = .returned (.int .u32 (rotl x 13)) ∧ wx = w' := fun wx => rot_any x 13 (-19) bx (by rfl) (by omega) (by omega)
          have R7 : ∀ wx, Calls Tryd.prog 81 #[.int .u32 y, .int .i64 (-7)] wx fun e w' => e = .returned (.int .u32 (rotl y 25)) ∧ wx = w' := fun wx => rot_any y 25 (-7) by' (by rfl) (by omega) (by omega)
          have R18 : ∀ wx, Calls Tryd.prog 81 #[.int .u32 y, .int .i64 (-18)] wx fun e w' => e = .returned (.int .u32 (rotl y 14)) ∧ wx = w' := fun wx => rot_any y 14 (-18) by' (by rfl) (by omega) (by omega)
          obtain ⟨A1, hA1⟩ : ∃ a, a = rotl x 15 := ⟨_, rfl⟩
          obtain ⟨A2, hA2⟩ : ∃ a, a = rotl x 13 := ⟨_, rfl⟩
          obtain ⟨A3, hA3⟩ : ∃ a, a = rotl y 25 := ⟨_, rfl⟩
          obtain ⟨A4, hA4⟩ : ∃ a, a = rotl y 14 := ⟨_, rfl⟩
          rw [← hA1] at R17
          rw [← hA2] at R19
          rw [← hA3] at R7
          rw [← hA4] at R18
          have ba1 : A1 < 4294967296 := by rw [hA1]; exact rotl_lt _ _ bx
          have ba2 : A2 < 4294967296 := by rw [hA2]; exact rotl_lt _ _ bx
          have ba3 : A3 < 4294967296 := by rw [hA3]; exact rotl_lt _ _ by'
          have ba4 : A4 < 4294967296 := by rw [hA4]; exact rotl_lt _ _ by'
          obtain ⟨B1, hB1⟩ : ∃ a, a = A1 ^^^ A2 := ⟨_, rfl⟩
          obtain ⟨B2, hB2⟩ : ∃ a, a = A3 ^^^ A4 := ⟨_, rfl⟩
          have bb1 : B1 < 4294967296 := by rw [hB1]; exact xor_lt32 ba1 ba2
          have bb2 : B2 < 4294967296 := by rw [hB2]; exact xor_lt32 ba3 ba4
          have e1 := bits_xor_u32 ba1 ba2
          have e2 := bits_xor_u32 ba3 ba4
          rw [← hB1] at e1
          rw [← hB2] at e2
          obtain ⟨x10, hx10⟩ : ∃ a, a = x / 1024 := ⟨_, rfl⟩
          obtain ⟨y3, hy3⟩ : ∃ a, a = y / 8 := ⟨_, rfl⟩
          have e3 : (x : Int) / 1024 = (x10 : Int) := by omega
          have e4 : (y : Int) / 8 = (y3 : Int) := by omega
          obtain ⟨L1, hL1⟩ : ∃ a, a = B1 ^^^ x10 := ⟨_, rfl⟩
          obtain ⟨L0, hL0⟩ : ∃ a, a = B2 ^^^ y3 := ⟨_, rfl⟩
          have e5 := bits_xor_u32 bb1 (show x10 < 4294967296 by omega)
          have e6 := bits_xor_u32 bb2 (show y3 < 4294967296 by omega)
          rw [← hL1] at e5
          rw [← hL0] at e6
          obtain ⟨T1, hT1⟩ : ∃ a, a = (L1 + v) % 4294967296 := ⟨_, rfl⟩
          obtain ⟨T2, hT2⟩ : ∃ a, a = (T1 + L0) % 4294967296 := ⟨_, rfl⟩
          obtain ⟨T3, hT3⟩ : ∃ a, a = (T2 + z) % 4294967296 := ⟨_, rfl⟩
          have u1 : IntKind.u32.wrap ((L1 : Int) + (v : Int)) = (T1 : Int) := by rw [wrap_u32']; omega
          have u2 : IntKind.u32.wrap ((T1 : Int) + (L0 : Int)) = (T2 : Int) := by rw [wrap_u32']; omega
          have u3 : IntKind.u32.wrap ((T2 : Int) + (z : Int)) = (T3 : Int) := by rw [wrap_u32']; omega
          have hT : T3 = shaNext (sched p k) := by
            have q2 : k2 = k - 2 := by omega
            have q7 : k7 = k - 7 := by omega
            have q15 : k15 = k - 15 := by omega
            have q16 : k16 = k - 16 := by omega
            unfold shaNext shaS1 shaS0
            rw [sched_length, ← q2, ← q7, ← q15, ← q16, ← hx, ← hv, ← hy, ← hz, ← hA1, ← hA2, ← hA3, ← hA4, ← hB1, ← hB2, ← hx10, ← hy3, ← hL1, ← hL0]
            omega
          have HT := Lib.hid hT
          have wk2 : IntKind.i64.wrap (k2 : Int) = (k2 : Int) := IntWalk.i64_in _ (by omega)
          have wk7 : IntKind.i64.wrap (k7 : Int) = (k7 : Int) := IntWalk.i64_in _ (by omega)
          have wk15 : IntKind.i64.wrap (k15 : Int) = (k15 : Int) := IntWalk.i64_in _ (by omega)
          have wk16 : IntKind.i64.wrap (k16 : Int) = (k16 : Int) := IntWalk.i64_in _ (by omega)
          have p2 : (k2 : Int) < 64 := by omega
          have p7 : (k7 : Int) < 64 := by omega
          have p15 : (k15 : Int) < 64 := by omega
          have p16 : (k16 : Int) < 64 := by omega
          have HNE := Lib.hid (show k7 ≠ k ∧ k16 ≠ k by omega)
          have HR17 := Lib.hid R17
          have HR19 := Lib.hid R19
          have HR7 := Lib.hid R7
          have HR18 := Lib.hid R18
          clear l64 hcell hgd hltw cells hx hv hy hz bx bv by' bz R17 R19 R7 R18 hA1 hA2 hA3 hA4 ba1 ba2 ba3 ba4 hB1 hB2 bb1 bb2 hx10 hy3 hL1 hL0 hT1 hT2 hT3 hT
          go_upto_region 9 with fail
          refine wp_region_held_drew (S := (fun w' => w'.cell? ⟨gw, k2, none⟩ = some (.int .u32 x) ∧ w'.cell? ⟨gw, k15, none⟩ = some (.int .u32 y))) (by kernel_rfl) ?_ (fun hHeld => ?_)
          · have h := HC.out wr.drew (Keeps.refl _ _).drew
            exact ⟨h.1, h.2.2.1⟩
          refine' wpAnyH_take (i := 0) (v := _) rfl (by kernel_rfl) (by kernel_rfl) (by kernel_rfl) (fun _ _ _ h => h) (Or.inl ⟨by rfl, ?_⟩) (by assumption) ?_
          rotate_left 1
          · (intro w0 hSw; (try dsimp only at hSw); go_split_ands; go_simp; (try with_reducible rfl))
          try simp only [Act.put, List.setIfInBounds_toArray, List.set_cons_zero, List.set_cons_succ, List.getElem_toArray, List.getElem_cons_zero, List.getElem_cons_succ]
          refine' wpAnyH_take (i := 1) (v := _) rfl (by kernel_rfl) (by kernel_rfl) (by kernel_rfl) (fun _ _ _ h => h) (Or.inl ⟨by rfl, ?_⟩) (by assumption) ?_
          rotate_left 1
          · (intro w0 hSw; (try dsimp only at hSw); go_split_ands; go_simp; (try with_reducible rfl))
          try simp only [Act.put, List.setIfInBounds_toArray, List.set_cons_zero, List.set_cons_succ, List.getElem_toArray, List.getElem_cons_zero, List.getElem_cons_succ]
          refine' wpAnyH_take (i := 2) (v := _) rfl (by kernel_rfl) (by kernel_rfl) (by kernel_rfl) (fun _ _ _ h => h) (Or.inl ⟨by rfl, ?_⟩) (by assumption) ?_
          rotate_left 1
          · (intro w0 hSw; (try dsimp only at hSw); go_split_ands; go_simp; (try with_reducible rfl))
          try simp only [Act.put, List.setIfInBounds_toArray, List.set_cons_zero, List.set_cons_succ, List.getElem_toArray, List.getElem_cons_zero, List.getElem_cons_succ]
          refine' wpAnyH_take (i := 3) (v := _) rfl (by kernel_rfl) (by kernel_rfl) (by kernel_rfl) (fun _ _ _ h => h) (Or.inl ⟨by rfl, ?_⟩) (by assumption) ?_
          rotate_left 1
          · (intro w0 hSw; (try dsimp only at hSw); go_split_ands; go_simp; (try with_reducible rfl))
          try simp only [Act.put, List.setIfInBounds_toArray, List.set_cons_zero, List.set_cons_succ, List.getElem_toArray, List.getElem_cons_zero, List.getElem_cons_succ]
          refine' wpAnyH_take (i := 4) (v := _) rfl (by kernel_rfl) (by kernel_rfl) (by kernel_rfl) (fun _ _ _ h => h) (Or.inl ⟨by rfl, ?_⟩) (by assumption) ?_
          rotate_left 1
          · (intro w0 hSw; (try dsimp only at hSw); go_split_ands; go_simp; (try with_reducible rfl))
          try simp only [Act.put, List.setIfInBounds_toArray, List.set_cons_zero, List.set_cons_succ, List.getElem_toArray, List.getElem_cons_zero, List.getElem_cons_succ]
          refine' wpAnyH_take (i := 5) (v := _) rfl (by kernel_rfl) (by kernel_rfl) (by kernel_rfl) (fun _ _ _ h => h) (Or.inl ⟨by rfl, ?_⟩) (by assumption) ?_
          rotate_left 1
          · (intro w0 hSw; (try dsimp only at hSw); go_split_ands; go_simp; (try with_reducible rfl))
          try simp only [Act.put, List.setIfInBounds_toArray, List.set_cons_zero, List.set_cons_succ, List.getElem_toArray, List.getElem_cons_zero, List.getElem_cons_succ]
          refine' wpAnyH_take (i := 6) (v := _) rfl (by kernel_rfl) (by kernel_rfl) (by kernel_rfl) (fun _ _ _ h => h) (Or.inl ⟨by rfl, ?_⟩) (by assumption) ?_
          rotate_left 1
          · (intro w0 hSw; (try dsimp only at hSw); go_split_ands; go_simp; (try with_reducible rfl))
          try simp only [Act.put, List.setIfInBounds_toArray, List.set_cons_zero, List.set_cons_succ, List.getElem_toArray, List.getElem_cons_zero, List.getElem_cons_succ]
          refine' wpAnyH_take (i := 7) (v := _) rfl (by kernel_rfl) (by kernel_rfl) (by kernel_rfl) (fun _ _ _ h => h) (Or.inl ⟨by rfl, ?_⟩) (by assumption) ?_
          rotate_left 1
          · (intro w0 hSw; (try dsimp only at hSw); go_split_ands; go_simp; (try with_reducible rfl))
          try simp only [Act.put, List.setIfInBounds_toArray, List.set_cons_zero, List.set_cons_succ, List.getElem_toArray, List.getElem_cons_zero, List.getElem_cons_succ]
          refine' wpAnyH_take (i := 8) (v := _) rfl (by kernel_rfl) (by kernel_rfl) (by kernel_rfl) (fun _ _ _ h => h) (Or.inl ⟨by rfl, ?_⟩) (by assumption) ?_
          rotate_left 1
          · (intro w0 hSw; (try dsimp only at hSw); go_split_ands; go_simp; (try with_reducible rfl))
          try simp only [Act.put, List.setIfInBounds_toArray, List.set_cons_zero, List.set_cons_succ, List.getElem_toArray, List.getElem_cons_zero, List.getElem_cons_succ]
          refine' wpAnyH_take (i := 9) (v := _) rfl (by kernel_rfl) (by kernel_rfl) (by kernel_rfl) (fun _ _ _ h => h) (Or.inl ⟨by rfl, ?_⟩) (by assumption) ?_
          rotate_left 1
          · (intro w0 hSw; (try dsimp only at hSw); go_split_ands; go_simp; (try with_reducible rfl))
          try simp only [Act.put, List.setIfInBounds_toArray, List.set_cons_zero, List.set_cons_succ, List.getElem_toArray, List.getElem_cons_zero, List.getElem_cons_succ]
          refine wpAnyH_done (by kernel_rfl) ?_ _
          clear hHeld
          go_upto_region 12 with (first | (go_at_call 81; ((with_reducible refine (HR17.out _).mono ?_); rintro e w' ⟨rfl, rfl⟩)) | (go_at_call 81; ((with_reducible refine (HR19.out _).mono ?_); rintro e w' ⟨rfl, rfl⟩)) | (go_at_call 81; ((with_reducible refine (HR7.out _).mono ?_); rintro e w' ⟨rfl, rfl⟩)) | (go_at_call 81; ((with_reducible refine (HR18.out _).mono ?_); rintro e w' ⟨rfl, rfl⟩)))
          have cw := HWS.out.cell k (by rw [L64.out]; omega)
          have fw := HWS.out.free k
          refine wp_region_held_drew (S := (fun w' => w'.cell? ⟨gw, k7, none⟩ = some (.int .u32 v) ∧ w'.cell? ⟨gw, k16, none⟩ = some (.int .u32 z))) (by kernel_rfl) ?_ (fun hHeld => ?_)
          · have h := HC.out wr.drew.drew (Keeps.refl _ _).drew.drew
            exact ⟨h.2.1, h.2.2.2⟩
          refine' wpAnyH_take (i := 0) (v := _) rfl (by kernel_rfl) (by kernel_rfl) (by kernel_rfl) (fun _ _ _ h => h) (Or.inl ⟨by rfl, ?_⟩) (by assumption) ?_
          rotate_left 1
          · (intro w0 hSw; (try dsimp only at hSw); go_split_ands; go_simp; (try with_reducible rfl))
          try simp only [Act.put, List.setIfInBounds_toArray, List.set_cons_zero, List.set_cons_succ, List.getElem_toArray, List.getElem_cons_zero, List.getElem_cons_succ]
          refine' wpAnyH_take (i := 1) (v := _) rfl (by kernel_rfl) (by kernel_rfl) (by kernel_rfl) (fun _ _ _ h => h) (Or.inl ⟨by rfl, ?_⟩) (by assumption) ?_
          rotate_left 1
          · (intro w0 hSw; (try dsimp only at hSw); go_split_ands; go_simp; (try with_reducible rfl))
          try simp only [Act.put, List.setIfInBounds_toArray, List.set_cons_zero, List.set_cons_succ, List.getElem_toArray, List.getElem_cons_zero, List.getElem_cons_succ]
          refine' wpAnyH_take (i := 2) (v := _) rfl (by kernel_rfl) (by kernel_rfl) (by kernel_rfl) (fun _ _ _ h => h) (Or.inl ⟨by rfl, ?_⟩) (by assumption) ?_
          rotate_left 1
          · (intro w0 hSw; (try dsimp only at hSw); go_split_ands; go_simp; (try with_reducible rfl))
          try simp only [Act.put, List.setIfInBounds_toArray, List.set_cons_zero, List.set_cons_succ, List.getElem_toArray, List.getElem_cons_zero, List.getElem_cons_succ]
          refine' wpAnyH_take (i := 3) (v := _) rfl (by kernel_rfl) (by kernel_rfl) (by kernel_rfl) (fun _ _ _ h => h) (Or.inl ⟨by rfl, ?_⟩) (by assumption) ?_
          rotate_left 1
          · (intro w0 hSw; (try dsimp only at hSw); go_split_ands; go_simp; (try with_reducible rfl))
          try simp only [Act.put, List.setIfInBounds_toArray, List.set_cons_zero, List.set_cons_succ, List.getElem_toArray, List.getElem_cons_zero, List.getElem_cons_succ]
          refine' wpAnyH_take (i := 4) (v := _) rfl (by kernel_rfl) (by kernel_rfl) (by kernel_rfl) (fun _ _ _ h => h) (Or.inl ⟨by rfl, ?_⟩) (by assumption) ?_
          rotate_left 1
          · (intro w0 hSw; (try dsimp only at hSw); go_split_ands; go_simp; (try with_reducible rfl))
          try simp only [Act.put, List.setIfInBounds_toArray, List.set_cons_zero, List.set_cons_succ, List.getElem_toArray, List.getElem_cons_zero, List.getElem_cons_succ]
          refine' wpAnyH_take (i := 5) (v := _) rfl (by kernel_rfl) (by kernel_rfl) (by kernel_rfl) (fun _ _ _ h => h) (Or.inl ⟨by rfl, ?_⟩) (by assumption) ?_
          rotate_left 1
          · (intro w0 hSw; (try dsimp only at hSw); go_split_ands; go_simp; (try with_reducible rfl))
          try simp only [Act.put, List.setIfInBounds_toArray, List.set_cons_zero, List.set_cons_succ, List.getElem_toArray, List.getElem_cons_zero, List.getElem_cons_succ]
          refine' wpAnyH_take (i := 6) (v := _) rfl (by kernel_rfl) (by kernel_rfl) (by kernel_rfl) (fun _ _ _ h => h) (Or.inl ⟨by rfl, ?_⟩) (by assumption) ?_
          rotate_left 1
          · (intro w0 hSw; (try dsimp only at hSw); go_split_ands; go_simp; (try with_reducible rfl))
          try simp only [Act.put, List.setIfInBounds_toArray, List.set_cons_zero, List.set_cons_succ, List.getElem_toArray, List.getElem_cons_zero, List.getElem_cons_succ]
          refine' wpAnyH_take (i := 7) (v := _) rfl (by kernel_rfl) (by kernel_rfl) (by kernel_rfl) (fun _ _ _ h => h) (Or.inl ⟨by rfl, ?_⟩) (by assumption) ?_
          rotate_left 1
          · (intro w0 hSw; (try dsimp only at hSw); go_split_ands; go_simp; (try with_reducible rfl))
          try simp only [Act.put, List.setIfInBounds_toArray, List.set_cons_zero, List.set_cons_succ, List.getElem_toArray, List.getElem_cons_zero, List.getElem_cons_succ]
          refine' wpAnyH_take (i := 8) (v := _) rfl (by kernel_rfl) (by kernel_rfl) (by kernel_rfl) (fun _ _ _ h => h) (Or.inl ⟨by rfl, ?_⟩) (by assumption) ?_
          rotate_left 1
          · (intro w0 hSw; (try dsimp only at hSw); go_split_ands; go_simp; (try with_reducible rfl))
          try simp only [Act.put, List.setIfInBounds_toArray, List.set_cons_zero, List.set_cons_succ, List.getElem_toArray, List.getElem_cons_zero, List.getElem_cons_succ]
          refine' wpAnyH_take (i := 9) (v := _) rfl (by kernel_rfl) (by kernel_rfl) (by kernel_rfl) (fun _ _ _ h => h) (Or.inl ⟨by rfl, ?_⟩) (by assumption) ?_
          rotate_left 1
          · (intro w0 hSw; (try dsimp only at hSw); go_split_ands; go_simp; (try with_reducible rfl))
          try simp only [Act.put, List.setIfInBounds_toArray, List.set_cons_zero, List.set_cons_succ, List.getElem_toArray, List.getElem_cons_zero, List.getElem_cons_succ]
          refine' wpAnyH_take (i := 10) (v := _) rfl (by kernel_rfl) (by kernel_rfl) (by kernel_rfl) (fun _ _ _ h => h) (Or.inl ⟨by rfl, ?_⟩) (by assumption) ?_
          rotate_left 1
          · (intro w0 hSw; (try dsimp only at hSw); go_split_ands; go_simp; (try with_reducible rfl))
          try simp only [Act.put, List.setIfInBounds_toArray, List.set_cons_zero, List.set_cons_succ, List.getElem_toArray, List.getElem_cons_zero, List.getElem_cons_succ]
          refine' wpAnyH_take (i := 11) (v := _) rfl (by kernel_rfl) (by kernel_rfl) (by kernel_rfl) (fun _ _ _ h => h) (Or.inl ⟨by rfl, ?_⟩) (by assumption) ?_
          rotate_left 1
          · (intro w0 hSw; (try dsimp only at hSw); go_split_ands; go_simp; (try with_reducible rfl))
          try simp only [Act.put, List.setIfInBounds_toArray, List.set_cons_zero, List.set_cons_succ, List.getElem_toArray, List.getElem_cons_zero, List.getElem_cons_succ]
          refine' wpAnyH_take (i := 12) (v := _) rfl (by kernel_rfl) (by kernel_rfl) (by kernel_rfl) (fun _ _ _ h => h) (Or.inl ⟨by rfl, ?_⟩) (by assumption) ?_
          rotate_left 1
          · (intro w0 hSw; (try dsimp only at hSw); go_split_ands; go_simp; (try with_reducible rfl))
          try simp only [Act.put, List.setIfInBounds_toArray, List.set_cons_zero, List.set_cons_succ, List.getElem_toArray, List.getElem_cons_zero, List.getElem_cons_succ]
          refine' wpAnyH_take (i := 13) (v := _) rfl (by kernel_rfl) (by kernel_rfl) (by kernel_rfl) (fun _ _ _ h => h) (Or.inl ⟨by rfl, ?_⟩) (by assumption) ?_
          rotate_left 1
          · (intro w0 hSw; (try dsimp only at hSw); go_split_ands; go_simp; (try with_reducible rfl))
          try simp only [Act.put, List.setIfInBounds_toArray, List.set_cons_zero, List.set_cons_succ, List.getElem_toArray, List.getElem_cons_zero, List.getElem_cons_succ]
          refine' wpAnyH_take (i := 14) (v := _) rfl (by kernel_rfl) (by kernel_rfl) (by kernel_rfl) (fun _ _ _ h => h) (Or.inl ⟨by rfl, ?_⟩) (by assumption) ?_
          rotate_left 1
          · (intro w0 hSw; (try dsimp only at hSw); go_split_ands; go_simp; (try with_reducible rfl))
          try simp only [Act.put, List.setIfInBounds_toArray, List.set_cons_zero, List.set_cons_succ, List.getElem_toArray, List.getElem_cons_zero, List.getElem_cons_succ]
          refine wpAnyH_ready (rs := [15]) (by kernel_rfl) (by simp) ?_
          refine AllReadyH.cons rfl (fun K hK => ?_) AllReadyH.nil
          go_simp
          refine hK.out _ _ ?_ (fun hHeld => ?_)
          · have h := HC.out wr (Keeps.refl _ _)
            exact ⟨(cell_set_off _ HNE.out.1).trans h.2.1, (cell_set_off _ HNE.out.2).trans h.2.2.2⟩
          clear hK K
          try simp only [Act.put, List.setIfInBounds_toArray, List.set_cons_zero, List.set_cons_succ, List.getElem_toArray, List.getElem_cons_zero, List.getElem_cons_succ]
          refine wpAnyH_done (by kernel_rfl) ?_ _
          clear hHeld
          go_wp2_with fail
          go_roundw
          case rel =>
            refine ⟨k + 1, by omega, by omega, by go_num, ?_, (HKR.out.setCell (.inl (by simp)) _).drew.drew⟩
            have h := HWS.out.set k T3
            rw [sched_set (by omega)] at h
            rw [sched_succ_ge hk16, ← HT.out]
            exact h
          case measure => simp [intOf]; omega
        · have k1 : ¬ (k : Int) < 64 := by omega
          obtain rfl : k = 64 := by omega
          have HW64 := Lib.hid (show Wds wr gw 160 (sched p 64) by have h := HWS.out; rw [Nat.sub_self, List.replicate_zero, List.append_nil] at h; exact h)
          clear k1 k0 hlt hk hk16
          obtain ⟨s0, s1, s2, s3, s4, s5, s6, s7⟩ := s
          obtain ⟨o0, o1, o2, o3, o4, o5, o6, o7⟩ := HS.out
          dsimp only at o0 o1 o2 o3 o4 o5 o6 o7
          have hcs : ∀ wx, Keeps [gw] w1 wx → wx.cell? ⟨g, 0, none⟩ = some (.int .u32 s0) ∧ wx.cell? ⟨g, 1, none⟩ = some (.int .u32 s1) ∧ wx.cell? ⟨g, 2, none⟩ = some (.int .u32 s2) ∧ wx.cell? ⟨g, 3, none⟩ = some (.int .u32 s3) ∧ wx.cell? ⟨g, 4, none⟩ = some (.int .u32 s4) ∧ wx.cell? ⟨g, 5, none⟩ = some (.int .u32 s5) ∧ wx.cell? ⟨g, 6, none⟩ = some (.int .u32 s6) ∧ wx.cell? ⟨g, 7, none⟩ = some (.int .u32 s7) := fun wx h => by
            have hh := HST.out wx h
            exact ⟨cell_sets_of' hh rfl, cell_sets_of' hh rfl, cell_sets_of' hh rfl, cell_sets_of' hh rfl, cell_sets_of' hh rfl, cell_sets_of' hh rfl, cell_sets_of' hh rfl, cell_sets_of' hh rfl⟩
          have HCS := Lib.hid hcs
          clear hcs o0 o1 o2 o3 o4 o5 o6 o7
          go_upto_region 13 with fail
          refine wp_region_held_drew (S := (fun wx => wx.cell? ⟨g, 0, none⟩ = some (.int .u32 s0) ∧ wx.cell? ⟨g, 1, none⟩ = some (.int .u32 s1) ∧ wx.cell? ⟨g, 2, none⟩ = some (.int .u32 s2) ∧ wx.cell? ⟨g, 3, none⟩ = some (.int .u32 s3) ∧ wx.cell? ⟨g, 4, none⟩ = some (.int .u32 s4) ∧ wx.cell? ⟨g, 5, none⟩ = some (.int .u32 s5) ∧ wx.cell? ⟨g, 6, none⟩ = some (.int .u32 s6) ∧ wx.cell? ⟨g, 7, none⟩ = some (.int .u32 s7))) (by kernel_rfl) ?_ (fun hHeld => ?_)
          · exact HCS.out wr.drew HKR.out.drew
          refine' wpAnyH_take (i := 0) (v := _) rfl (by kernel_rfl) (by kernel_rfl) (by kernel_rfl) (fun _ _ _ h => h) (Or.inl ⟨by rfl, ?_⟩) (by assumption) ?_
          rotate_left 1
          · (intro w0 hSw; (try dsimp only at hSw); go_split_ands; go_simp; (try with_reducible rfl))
          try simp only [Act.put, List.setIfInBounds_toArray, List.set_cons_zero, List.set_cons_succ, List.getElem_toArray, List.getElem_cons_zero, List.getElem_cons_succ]
          refine' wpAnyH_take (i := 1) (v := _) rfl (by kernel_rfl) (by kernel_rfl) (by kernel_rfl) (fun _ _ _ h => h) (Or.inl ⟨by rfl, ?_⟩) (by assumption) ?_
          rotate_left 1
          · (intro w0 hSw; (try dsimp only at hSw); go_split_ands; go_simp; (try with_reducible rfl))
          try simp only [Act.put, List.setIfInBounds_toArray, List.set_cons_zero, List.set_cons_succ, List.getElem_toArray, List.getElem_cons_zero, List.getElem_cons_succ]
          refine' wpAnyH_take (i := 2) (v := _) rfl (by kernel_rfl) (by kernel_rfl) (by kernel_rfl) (fun _ _ _ h => h) (Or.inl ⟨by rfl, ?_⟩) (by assumption) ?_
          rotate_left 1
          · (intro w0 hSw; (try dsimp only at hSw); go_split_ands; go_simp; (try with_reducible rfl))
          try simp only [Act.put, List.setIfInBounds_toArray, List.set_cons_zero, List.set_cons_succ, List.getElem_toArray, List.getElem_cons_zero, List.getElem_cons_succ]
          refine' wpAnyH_take (i := 3) (v := _) rfl (by kernel_rfl) (by kernel_rfl) (by kernel_rfl) (fun _ _ _ h => h) (Or.inl ⟨by rfl, ?_⟩) (by assumption) ?_
          rotate_left 1
          · (intro w0 hSw; (try dsimp only at hSw); go_split_ands; go_simp; (try with_reducible rfl))
          try simp only [Act.put, List.setIfInBounds_toArray, List.set_cons_zero, List.set_cons_succ, List.getElem_toArray, List.getElem_cons_zero, List.getElem_cons_succ]
          refine' wpAnyH_take (i := 4) (v := _) rfl (by kernel_rfl) (by kernel_rfl) (by kernel_rfl) (fun _ _ _ h => h) (Or.inl ⟨by rfl, ?_⟩) (by assumption) ?_
          rotate_left 1
          · (intro w0 hSw; (try dsimp only at hSw); go_split_ands; go_simp; (try with_reducible rfl))
          try simp only [Act.put, List.setIfInBounds_toArray, List.set_cons_zero, List.set_cons_succ, List.getElem_toArray, List.getElem_cons_zero, List.getElem_cons_succ]
          refine' wpAnyH_take (i := 5) (v := _) rfl (by kernel_rfl) (by kernel_rfl) (by kernel_rfl) (fun _ _ _ h => h) (Or.inl ⟨by rfl, ?_⟩) (by assumption) ?_
          rotate_left 1
          · (intro w0 hSw; (try dsimp only at hSw); go_split_ands; go_simp; (try with_reducible rfl))
          try simp only [Act.put, List.setIfInBounds_toArray, List.set_cons_zero, List.set_cons_succ, List.getElem_toArray, List.getElem_cons_zero, List.getElem_cons_succ]
          refine' wpAnyH_take (i := 6) (v := _) rfl (by kernel_rfl) (by kernel_rfl) (by kernel_rfl) (fun _ _ _ h => h) (Or.inl ⟨by rfl, ?_⟩) (by assumption) ?_
          rotate_left 1
          · (intro w0 hSw; (try dsimp only at hSw); go_split_ands; go_simp; (try with_reducible rfl))
          try simp only [Act.put, List.setIfInBounds_toArray, List.set_cons_zero, List.set_cons_succ, List.getElem_toArray, List.getElem_cons_zero, List.getElem_cons_succ]
          refine' wpAnyH_take (i := 7) (v := _) rfl (by kernel_rfl) (by kernel_rfl) (by kernel_rfl) (fun _ _ _ h => h) (Or.inl ⟨by rfl, ?_⟩) (by assumption) ?_
          rotate_left 1
          · (intro w0 hSw; (try dsimp only at hSw); go_split_ands; go_simp; (try with_reducible rfl))
          try simp only [Act.put, List.setIfInBounds_toArray, List.set_cons_zero, List.set_cons_succ, List.getElem_toArray, List.getElem_cons_zero, List.getElem_cons_succ]
          refine' wpAnyH_take (i := 8) (v := _) rfl (by kernel_rfl) (by kernel_rfl) (by kernel_rfl) (fun _ _ _ h => h) (Or.inl ⟨by rfl, ?_⟩) (by assumption) ?_
          rotate_left 1
          · (intro w0 hSw; (try dsimp only at hSw); go_split_ands; go_simp; (try with_reducible rfl))
          try simp only [Act.put, List.setIfInBounds_toArray, List.set_cons_zero, List.set_cons_succ, List.getElem_toArray, List.getElem_cons_zero, List.getElem_cons_succ]
          refine' wpAnyH_take (i := 9) (v := _) rfl (by kernel_rfl) (by kernel_rfl) (by kernel_rfl) (fun _ _ _ h => h) (Or.inl ⟨by rfl, ?_⟩) (by assumption) ?_
          rotate_left 1
          · (intro w0 hSw; (try dsimp only at hSw); go_split_ands; go_simp; (try with_reducible rfl))
          try simp only [Act.put, List.setIfInBounds_toArray, List.set_cons_zero, List.set_cons_succ, List.getElem_toArray, List.getElem_cons_zero, List.getElem_cons_succ]
          refine' wpAnyH_take (i := 10) (v := _) rfl (by kernel_rfl) (by kernel_rfl) (by kernel_rfl) (fun _ _ _ h => h) (Or.inl ⟨by rfl, ?_⟩) (by assumption) ?_
          rotate_left 1
          · (intro w0 hSw; (try dsimp only at hSw); go_split_ands; go_simp; (try with_reducible rfl))
          try simp only [Act.put, List.setIfInBounds_toArray, List.set_cons_zero, List.set_cons_succ, List.getElem_toArray, List.getElem_cons_zero, List.getElem_cons_succ]
          refine' wpAnyH_take (i := 11) (v := _) rfl (by kernel_rfl) (by kernel_rfl) (by kernel_rfl) (fun _ _ _ h => h) (Or.inl ⟨by rfl, ?_⟩) (by assumption) ?_
          rotate_left 1
          · (intro w0 hSw; (try dsimp only at hSw); go_split_ands; go_simp; (try with_reducible rfl))
          try simp only [Act.put, List.setIfInBounds_toArray, List.set_cons_zero, List.set_cons_succ, List.getElem_toArray, List.getElem_cons_zero, List.getElem_cons_succ]
          refine' wpAnyH_take (i := 12) (v := _) rfl (by kernel_rfl) (by kernel_rfl) (by kernel_rfl) (fun _ _ _ h => h) (Or.inl ⟨by rfl, ?_⟩) (by assumption) ?_
          rotate_left 1
          · (intro w0 hSw; (try dsimp only at hSw); go_split_ands; go_simp; (try with_reducible rfl))
          try simp only [Act.put, List.setIfInBounds_toArray, List.set_cons_zero, List.set_cons_succ, List.getElem_toArray, List.getElem_cons_zero, List.getElem_cons_succ]
          refine' wpAnyH_take (i := 13) (v := _) rfl (by kernel_rfl) (by kernel_rfl) (by kernel_rfl) (fun _ _ _ h => h) (Or.inl ⟨by rfl, ?_⟩) (by assumption) ?_
          rotate_left 1
          · (intro w0 hSw; (try dsimp only at hSw); go_split_ands; go_simp; (try with_reducible rfl))
          try simp only [Act.put, List.setIfInBounds_toArray, List.set_cons_zero, List.set_cons_succ, List.getElem_toArray, List.getElem_cons_zero, List.getElem_cons_succ]
          refine' wpAnyH_take (i := 14) (v := _) rfl (by kernel_rfl) (by kernel_rfl) (by kernel_rfl) (fun _ _ _ h => h) (Or.inl ⟨by rfl, ?_⟩) (by assumption) ?_
          rotate_left 1
          · (intro w0 hSw; (try dsimp only at hSw); go_split_ands; go_simp; (try with_reducible rfl))
          try simp only [Act.put, List.setIfInBounds_toArray, List.set_cons_zero, List.set_cons_succ, List.getElem_toArray, List.getElem_cons_zero, List.getElem_cons_succ]
          refine' wpAnyH_take (i := 15) (v := _) rfl (by kernel_rfl) (by kernel_rfl) (by kernel_rfl) (fun _ _ _ h => h) (Or.inl ⟨by rfl, ?_⟩) (by assumption) ?_
          rotate_left 1
          · (intro w0 hSw; (try dsimp only at hSw); go_split_ands; go_simp; (try with_reducible rfl))
          try simp only [Act.put, List.setIfInBounds_toArray, List.set_cons_zero, List.set_cons_succ, List.getElem_toArray, List.getElem_cons_zero, List.getElem_cons_succ]
          refine' wpAnyH_take (i := 16) (v := _) rfl (by kernel_rfl) (by kernel_rfl) (by kernel_rfl) (fun _ _ _ h => h) (Or.inl ⟨by rfl, ?_⟩) (by assumption) ?_
          rotate_left 1
          · (intro w0 hSw; (try dsimp only at hSw); go_split_ands; go_simp; (try with_reducible rfl))
          try simp only [Act.put, List.setIfInBounds_toArray, List.set_cons_zero, List.set_cons_succ, List.getElem_toArray, List.getElem_cons_zero, List.getElem_cons_succ]
          refine' wpAnyH_take (i := 17) (v := _) rfl (by kernel_rfl) (by kernel_rfl) (by kernel_rfl) (fun _ _ _ h => h) (Or.inl ⟨by rfl, ?_⟩) (by assumption) ?_
          rotate_left 1
          · (intro w0 hSw; (try dsimp only at hSw); go_split_ands; go_simp; (try with_reducible rfl))
          try simp only [Act.put, List.setIfInBounds_toArray, List.set_cons_zero, List.set_cons_succ, List.getElem_toArray, List.getElem_cons_zero, List.getElem_cons_succ]
          refine' wpAnyH_take (i := 18) (v := _) rfl (by kernel_rfl) (by kernel_rfl) (by kernel_rfl) (fun _ _ _ h => h) (Or.inl ⟨by rfl, ?_⟩) (by assumption) ?_
          rotate_left 1
          · (intro w0 hSw; (try dsimp only at hSw); go_split_ands; go_simp; (try with_reducible rfl))
          try simp only [Act.put, List.setIfInBounds_toArray, List.set_cons_zero, List.set_cons_succ, List.getElem_toArray, List.getElem_cons_zero, List.getElem_cons_succ]
          refine' wpAnyH_take (i := 19) (v := _) rfl (by kernel_rfl) (by kernel_rfl) (by kernel_rfl) (fun _ _ _ h => h) (Or.inl ⟨by rfl, ?_⟩) (by assumption) ?_
          rotate_left 1
          · (intro w0 hSw; (try dsimp only at hSw); go_split_ands; go_simp; (try with_reducible rfl))
          try simp only [Act.put, List.setIfInBounds_toArray, List.set_cons_zero, List.set_cons_succ, List.getElem_toArray, List.getElem_cons_zero, List.getElem_cons_succ]
          refine' wpAnyH_take (i := 20) (v := _) rfl (by kernel_rfl) (by kernel_rfl) (by kernel_rfl) (fun _ _ _ h => h) (Or.inl ⟨by rfl, ?_⟩) (by assumption) ?_
          rotate_left 1
          · (intro w0 hSw; (try dsimp only at hSw); go_split_ands; go_simp; (try with_reducible rfl))
          try simp only [Act.put, List.setIfInBounds_toArray, List.set_cons_zero, List.set_cons_succ, List.getElem_toArray, List.getElem_cons_zero, List.getElem_cons_succ]
          refine' wpAnyH_take (i := 21) (v := _) rfl (by kernel_rfl) (by kernel_rfl) (by kernel_rfl) (fun _ _ _ h => h) (Or.inl ⟨by rfl, ?_⟩) (by assumption) ?_
          rotate_left 1
          · (intro w0 hSw; (try dsimp only at hSw); go_split_ands; go_simp; (try with_reducible rfl))
          try simp only [Act.put, List.setIfInBounds_toArray, List.set_cons_zero, List.set_cons_succ, List.getElem_toArray, List.getElem_cons_zero, List.getElem_cons_succ]
          refine' wpAnyH_take (i := 22) (v := _) rfl (by kernel_rfl) (by kernel_rfl) (by kernel_rfl) (fun _ _ _ h => h) (Or.inl ⟨by rfl, ?_⟩) (by assumption) ?_
          rotate_left 1
          · (intro w0 hSw; (try dsimp only at hSw); go_split_ands; go_simp; (try with_reducible rfl))
          try simp only [Act.put, List.setIfInBounds_toArray, List.set_cons_zero, List.set_cons_succ, List.getElem_toArray, List.getElem_cons_zero, List.getElem_cons_succ]
          refine' wpAnyH_take (i := 23) (v := _) rfl (by kernel_rfl) (by kernel_rfl) (by kernel_rfl) (fun _ _ _ h => h) (Or.inl ⟨by rfl, ?_⟩) (by assumption) ?_
          rotate_left 1
          · (intro w0 hSw; (try dsimp only at hSw); go_split_ands; go_simp; (try with_reducible rfl))
          try simp only [Act.put, List.setIfInBounds_toArray, List.set_cons_zero, List.set_cons_succ, List.getElem_toArray, List.getElem_cons_zero, List.getElem_cons_succ]
          refine' wpAnyH_take (i := 24) (v := _) rfl (by kernel_rfl) (by kernel_rfl) (by kernel_rfl) (fun _ _ _ h => h) (Or.inl ⟨by rfl, ?_⟩) (by assumption) ?_
          rotate_left 1
          · (intro w0 hSw; (try dsimp only at hSw); go_split_ands; go_simp; (try with_reducible rfl))
          try simp only [Act.put, List.setIfInBounds_toArray, List.set_cons_zero, List.set_cons_succ, List.getElem_toArray, List.getElem_cons_zero, List.getElem_cons_succ]
          refine' wpAnyH_take (i := 25) (v := _) rfl (by kernel_rfl) (by kernel_rfl) (by kernel_rfl) (fun _ _ _ h => h) (Or.inl ⟨by rfl, ?_⟩) (by assumption) ?_
          rotate_left 1
          · (intro w0 hSw; (try dsimp only at hSw); go_split_ands; go_simp; (try with_reducible rfl))
          try simp only [Act.put, List.setIfInBounds_toArray, List.set_cons_zero, List.set_cons_succ, List.getElem_toArray, List.getElem_cons_zero, List.getElem_cons_succ]
          refine' wpAnyH_take (i := 26) (v := _) rfl (by kernel_rfl) (by kernel_rfl) (by kernel_rfl) (fun _ _ _ h => h) (Or.inl ⟨by rfl, ?_⟩) (by assumption) ?_
          rotate_left 1
          · (intro w0 hSw; (try dsimp only at hSw); go_split_ands; go_simp; (try with_reducible rfl))
          try simp only [Act.put, List.setIfInBounds_toArray, List.set_cons_zero, List.set_cons_succ, List.getElem_toArray, List.getElem_cons_zero, List.getElem_cons_succ]
          refine' wpAnyH_take (i := 27) (v := _) rfl (by kernel_rfl) (by kernel_rfl) (by kernel_rfl) (fun _ _ _ h => h) (Or.inl ⟨by rfl, ?_⟩) (by assumption) ?_
          rotate_left 1
          · (intro w0 hSw; (try dsimp only at hSw); go_split_ands; go_simp; (try with_reducible rfl))
          try simp only [Act.put, List.setIfInBounds_toArray, List.set_cons_zero, List.set_cons_succ, List.getElem_toArray, List.getElem_cons_zero, List.getElem_cons_succ]
          refine' wpAnyH_take (i := 28) (v := _) rfl (by kernel_rfl) (by kernel_rfl) (by kernel_rfl) (fun _ _ _ h => h) (Or.inl ⟨by rfl, ?_⟩) (by assumption) ?_
          rotate_left 1
          · (intro w0 hSw; (try dsimp only at hSw); go_split_ands; go_simp; (try with_reducible rfl))
          try simp only [Act.put, List.setIfInBounds_toArray, List.set_cons_zero, List.set_cons_succ, List.getElem_toArray, List.getElem_cons_zero, List.getElem_cons_succ]
          refine' wpAnyH_take (i := 29) (v := _) rfl (by kernel_rfl) (by kernel_rfl) (by kernel_rfl) (fun _ _ _ h => h) (Or.inl ⟨by rfl, ?_⟩) (by assumption) ?_
          rotate_left 1
          · (intro w0 hSw; (try dsimp only at hSw); go_split_ands; go_simp; (try with_reducible rfl))
          try simp only [Act.put, List.setIfInBounds_toArray, List.set_cons_zero, List.set_cons_succ, List.getElem_toArray, List.getElem_cons_zero, List.getElem_cons_succ]
          refine' wpAnyH_take (i := 30) (v := _) rfl (by kernel_rfl) (by kernel_rfl) (by kernel_rfl) (fun _ _ _ h => h) (Or.inl ⟨by rfl, ?_⟩) (by assumption) ?_
          rotate_left 1
          · (intro w0 hSw; (try dsimp only at hSw); go_split_ands; go_simp; (try with_reducible rfl))
          try simp only [Act.put, List.setIfInBounds_toArray, List.set_cons_zero, List.set_cons_succ, List.getElem_toArray, List.getElem_cons_zero, List.getElem_cons_succ]
          refine' wpAnyH_take (i := 31) (v := _) rfl (by kernel_rfl) (by kernel_rfl) (by kernel_rfl) (fun _ _ _ h => h) (Or.inl ⟨by rfl, ?_⟩) (by assumption) ?_
          rotate_left 1
          · (intro w0 hSw; (try dsimp only at hSw); go_split_ands; go_simp; (try with_reducible rfl))
          try simp only [Act.put, List.setIfInBounds_toArray, List.set_cons_zero, List.set_cons_succ, List.getElem_toArray, List.getElem_cons_zero, List.getElem_cons_succ]
          refine' wpAnyH_take (i := 32) (v := _) rfl (by kernel_rfl) (by kernel_rfl) (by kernel_rfl) (fun _ _ _ h => h) (Or.inl ⟨by rfl, ?_⟩) (by assumption) ?_
          rotate_left 1
          · (intro w0 hSw; (try dsimp only at hSw); go_split_ands; go_simp; (try with_reducible rfl))
          try simp only [Act.put, List.setIfInBounds_toArray, List.set_cons_zero, List.set_cons_succ, List.getElem_toArray, List.getElem_cons_zero, List.getElem_cons_succ]
          refine' wpAnyH_take (i := 33) (v := _) rfl (by kernel_rfl) (by kernel_rfl) (by kernel_rfl) (fun _ _ _ h => h) (Or.inl ⟨by rfl, ?_⟩) (by assumption) ?_
          rotate_left 1
          · (intro w0 hSw; (try dsimp only at hSw); go_split_ands; go_simp; (try with_reducible rfl))
          try simp only [Act.put, List.setIfInBounds_toArray, List.set_cons_zero, List.set_cons_succ, List.getElem_toArray, List.getElem_cons_zero, List.getElem_cons_succ]
          refine' wpAnyH_take (i := 34) (v := _) rfl (by kernel_rfl) (by kernel_rfl) (by kernel_rfl) (fun _ _ _ h => h) (Or.inl ⟨by rfl, ?_⟩) (by assumption) ?_
          rotate_left 1
          · (intro w0 hSw; (try dsimp only at hSw); go_split_ands; go_simp; (try with_reducible rfl))
          try simp only [Act.put, List.setIfInBounds_toArray, List.set_cons_zero, List.set_cons_succ, List.getElem_toArray, List.getElem_cons_zero, List.getElem_cons_succ]
          refine' wpAnyH_take (i := 35) (v := _) rfl (by kernel_rfl) (by kernel_rfl) (by kernel_rfl) (fun _ _ _ h => h) (Or.inl ⟨by rfl, ?_⟩) (by assumption) ?_
          rotate_left 1
          · (intro w0 hSw; (try dsimp only at hSw); go_split_ands; go_simp; (try with_reducible rfl))
          try simp only [Act.put, List.setIfInBounds_toArray, List.set_cons_zero, List.set_cons_succ, List.getElem_toArray, List.getElem_cons_zero, List.getElem_cons_succ]
          refine' wpAnyH_take (i := 36) (v := _) rfl (by kernel_rfl) (by kernel_rfl) (by kernel_rfl) (fun _ _ _ h => h) (Or.inl ⟨by rfl, ?_⟩) (by assumption) ?_
          rotate_left 1
          · (intro w0 hSw; (try dsimp only at hSw); go_split_ands; go_simp; (try with_reducible rfl))
          try simp only [Act.put, List.setIfInBounds_toArray, List.set_cons_zero, List.set_cons_succ, List.getElem_toArray, List.getElem_cons_zero, List.getElem_cons_succ]
          refine' wpAnyH_take (i := 37) (v := _) rfl (by kernel_rfl) (by kernel_rfl) (by kernel_rfl) (fun _ _ _ h => h) (Or.inl ⟨by rfl, ?_⟩) (by assumption) ?_
          rotate_left 1
          · (intro w0 hSw; (try dsimp only at hSw); go_split_ands; go_simp; (try with_reducible rfl))
          try simp only [Act.put, List.setIfInBounds_toArray, List.set_cons_zero, List.set_cons_succ, List.getElem_toArray, List.getElem_cons_zero, List.getElem_cons_succ]
          refine' wpAnyH_take (i := 38) (v := _) rfl (by kernel_rfl) (by kernel_rfl) (by kernel_rfl) (fun _ _ _ h => h) (Or.inl ⟨by rfl, ?_⟩) (by assumption) ?_
          rotate_left 1
          · (intro w0 hSw; (try dsimp only at hSw); go_split_ands; go_simp; (try with_reducible rfl))
          try simp only [Act.put, List.setIfInBounds_toArray, List.set_cons_zero, List.set_cons_succ, List.getElem_toArray, List.getElem_cons_zero, List.getElem_cons_succ]
          refine' wpAnyH_take (i := 39) (v := _) rfl (by kernel_rfl) (by kernel_rfl) (by kernel_rfl) (fun _ _ _ h => h) (Or.inl ⟨by rfl, ?_⟩) (by assumption) ?_
          rotate_left 1
          · (intro w0 hSw; (try dsimp only at hSw); go_split_ands; go_simp; (try with_reducible rfl))
          try simp only [Act.put, List.setIfInBounds_toArray, List.set_cons_zero, List.set_cons_succ, List.getElem_toArray, List.getElem_cons_zero, List.getElem_cons_succ]
          refine' wpAnyH_take (i := 40) (v := _) rfl (by kernel_rfl) (by kernel_rfl) (by kernel_rfl) (fun _ _ _ h => h) (Or.inl ⟨by rfl, ?_⟩) (by assumption) ?_
          rotate_left 1
          · (intro w0 hSw; (try dsimp only at hSw); go_split_ands; go_simp; (try with_reducible rfl))
          try simp only [Act.put, List.setIfInBounds_toArray, List.set_cons_zero, List.set_cons_succ, List.getElem_toArray, List.getElem_cons_zero, List.getElem_cons_succ]
          refine' wpAnyH_take (i := 41) (v := _) rfl (by kernel_rfl) (by kernel_rfl) (by kernel_rfl) (fun _ _ _ h => h) (Or.inl ⟨by rfl, ?_⟩) (by assumption) ?_
          rotate_left 1
          · (intro w0 hSw; (try dsimp only at hSw); go_split_ands; go_simp; (try with_reducible rfl))
          try simp only [Act.put, List.setIfInBounds_toArray, List.set_cons_zero, List.set_cons_succ, List.getElem_toArray, List.getElem_cons_zero, List.getElem_cons_succ]
          refine' wpAnyH_take (i := 42) (v := _) rfl (by kernel_rfl) (by kernel_rfl) (by kernel_rfl) (fun _ _ _ h => h) (Or.inl ⟨by rfl, ?_⟩) (by assumption) ?_
          rotate_left 1
          · (intro w0 hSw; (try dsimp only at hSw); go_split_ands; go_simp; (try with_reducible rfl))
          try simp only [Act.put, List.setIfInBounds_toArray, List.set_cons_zero, List.set_cons_succ, List.getElem_toArray, List.getElem_cons_zero, List.getElem_cons_succ]
          refine' wpAnyH_take (i := 43) (v := _) rfl (by kernel_rfl) (by kernel_rfl) (by kernel_rfl) (fun _ _ _ h => h) (Or.inl ⟨by rfl, ?_⟩) (by assumption) ?_
          rotate_left 1
          · (intro w0 hSw; (try dsimp only at hSw); go_split_ands; go_simp; (try with_reducible rfl))
          try simp only [Act.put, List.setIfInBounds_toArray, List.set_cons_zero, List.set_cons_succ, List.getElem_toArray, List.getElem_cons_zero, List.getElem_cons_succ]
          refine' wpAnyH_take (i := 44) (v := _) rfl (by kernel_rfl) (by kernel_rfl) (by kernel_rfl) (fun _ _ _ h => h) (Or.inl ⟨by rfl, ?_⟩) (by assumption) ?_
          rotate_left 1
          · (intro w0 hSw; (try dsimp only at hSw); go_split_ands; go_simp; (try with_reducible rfl))
          try simp only [Act.put, List.setIfInBounds_toArray, List.set_cons_zero, List.set_cons_succ, List.getElem_toArray, List.getElem_cons_zero, List.getElem_cons_succ]
          refine' wpAnyH_take (i := 45) (v := _) rfl (by kernel_rfl) (by kernel_rfl) (by kernel_rfl) (fun _ _ _ h => h) (Or.inl ⟨by rfl, ?_⟩) (by assumption) ?_
          rotate_left 1
          · (intro w0 hSw; (try dsimp only at hSw); go_split_ands; go_simp; (try with_reducible rfl))
          try simp only [Act.put, List.setIfInBounds_toArray, List.set_cons_zero, List.set_cons_succ, List.getElem_toArray, List.getElem_cons_zero, List.getElem_cons_succ]
          refine' wpAnyH_take (i := 46) (v := _) rfl (by kernel_rfl) (by kernel_rfl) (by kernel_rfl) (fun _ _ _ h => h) (Or.inl ⟨by rfl, ?_⟩) (by assumption) ?_
          rotate_left 1
          · (intro w0 hSw; (try dsimp only at hSw); go_split_ands; go_simp; (try with_reducible rfl))
          try simp only [Act.put, List.setIfInBounds_toArray, List.set_cons_zero, List.set_cons_succ, List.getElem_toArray, List.getElem_cons_zero, List.getElem_cons_succ]
          refine' wpAnyH_take (i := 47) (v := _) rfl (by kernel_rfl) (by kernel_rfl) (by kernel_rfl) (fun _ _ _ h => h) (Or.inl ⟨by rfl, ?_⟩) (by assumption) ?_
          rotate_left 1
          · (intro w0 hSw; (try dsimp only at hSw); go_split_ands; go_simp; (try with_reducible rfl))
          try simp only [Act.put, List.setIfInBounds_toArray, List.set_cons_zero, List.set_cons_succ, List.getElem_toArray, List.getElem_cons_zero, List.getElem_cons_succ]
          refine wpAnyH_done (by kernel_rfl) ?_ _
          clear hHeld
          go_wp2_with fail
          obtain ⟨wo, hwo⟩ : ∃ x, x = wr.drew := ⟨_, rfl⟩
          rw [← hwo]
          have HWo := Lib.hid (show Wds wo gw 160 (sched p 64) by rw [hwo]; exact HW64.out)
          have HKo := Lib.hid (show Keeps [gw] w1 wo by rw [hwo]; exact HKR.out.drew)
          clear hwo HW64 HKR HWS
          go_loopw [11, 12, 13, 14, 15, 16, 17, 18, 146] (fun va vb vc vd ve vf vg vh iv wr => ∃ (k : Nat) (r : S8), k ≤ 64 ∧ r = shaRun ⟨s0, s1, s2, s3, s4, s5, s6, s7⟩ (sched p 64) k ∧ va = .int .u32 r.a ∧ vb = .int .u32 r.b ∧ vc = .int .u32 r.c ∧ vd = .int .u32 r.d ∧ ve = .int .u32 r.e ∧ vf = .int .u32 r.f ∧ vg = .int .u32 r.g ∧ vh = .int .u32 r.h ∧ iv = .int .i64 k ∧ Keeps [] wo wr) (fun _ _ _ _ _ _ _ _ iv _ => 64 - (intOf iv).toNat)
          case atStart => exact ⟨0, _, Nat.zero_le _, rfl, rfl, rfl, rfl, rfl, rfl, rfl, rfl, rfl, rfl, Keeps.refl _ _⟩
          case round =>
            obtain ⟨k, r, hk, hr, rfl, rfl, rfl, rfl, rfl, rfl, rfl, rfl, rfl, hkr⟩ := hrel
            have HR := Lib.hid hr
            have HOK := Lib.hid (show r.ok by rw [hr]; exact shaRun_ok HS.out _ _)
            have HKR := Lib.hid hkr
            clear hr hkr
            have k0 : (0 : Int) ≤ (k : Int) := by omega
            by_cases hlt : k < 64
            · have k1 : (k : Int) < 64 := by omega
              obtain ⟨ra, rb, rc, rd, re, rf, rg, rh⟩ := r
              obtain ⟨ba, bb, bc, bd, be, bf, bg, bh⟩ := HOK.out
              dsimp only at ba bb bc bd be bf bg bh ⊢
              obtain ⟨K, hK⟩ : ∃ a, a = shaK.getD k 0 := ⟨_, rfl⟩
              obtain ⟨Wk, hWk⟩ : ∃ a, a = (sched p 64).getD k 0 := ⟨_, rfl⟩
              have bK : K < 4294967296 := by rw [hK]; exact shaK_lt k hlt
              have bW : Wk < 4294967296 := by
                rw [hWk, List.getD_eq_getElem?_getD, List.getElem?_eq_getElem (by rw [sched_length]; exact hlt)]
                exact sched_lt p 64 _ (List.getElem_mem _)
              have cells : ∀ wx, Keeps [] wr wx → wx.cell? ⟨1, k, none⟩ = some (.int .u32 K) ∧ wx.cell? ⟨gw, k, none⟩ = some (.int .u32 Wk) := fun wx h => by
                rw [hK, hWk]
                exact ⟨HTAB.out wx (HKo.out.trans (G := []) (HKR.out.trans (G := []) h (by simp)) (by simp)) k hlt, (HWo.out.keeps (HKR.out.trans (G := []) h (by simp)) (by simp)).cell k (by rw [sched_length]; exact hlt)⟩
              have HC := Lib.hid cells
              have R6 : ∀ wx, Calls Tryd.prog 81 #[.int .u32 re, .int .i64 (-6)] wx fun e w' => e = .returned (.int .u32 (rotl re 26)) ∧ wx = w' := fun wx => rot_any re 26 (-6) be (by rfl) (by omega) (by omega)
              have R11 : ∀ wx, Calls Tryd.prog 81 #[.int .u32 re, .int .i64 (-11)] wx fun e w' => e = .returned (.int .u32 (rotl re 21)) ∧ wx = w' := fun wx => rot_any re 21 (-11) be (by rfl) (by omega) (by omega)
              have R25 : ∀ wx, Calls Tryd.prog 81 #[.int .u32 re, .int .i64 (-25)] wx fun e w' => e = .returned (.int .u32 (rotl re 7)) ∧ wx = w' := fun wx => rot_any re 7 (-25) be (by rfl) (by omega) (by omega)
              have R2 : ∀ wx, Calls Tryd.prog 81 #[.int .u32 ra, .int .i64 (-2)] wx fun e w' => e = .returned (.int .u32 (rotl ra 30)) ∧ wx = w' := fun wx => rot_any ra 30 (-2) ba (by rfl) (by omega) (by omega)
              have R13 : ∀ wx, Calls Tryd.prog 81 #[.int .u32 ra, .int .i64 (-13)] wx fun e w' => e = .returned (.int .u32 (rotl ra 19)) ∧ wx = w' := fun wx => rot_any ra 19 (-13) ba (by rfl) (by omega) (by omega)
              have R22 : ∀ wx, Calls Tryd.prog 81 #[.int .u32 ra, .int .i64 (-22)] wx fun e w' => e = .returned (.int .u32 (rotl ra 10)) ∧ wx = w' := fun wx => rot_any ra 10 (-22) ba (by rfl) (by omega) (by omega)
              obtain ⟨A1, hA1⟩ : ∃ a, a = rotl re 26 := ⟨_, rfl⟩
              obtain ⟨A2, hA2⟩ : ∃ a, a = rotl re 21 := ⟨_, rfl⟩
              obtain ⟨A3, hA3⟩ : ∃ a, a = rotl re 7 := ⟨_, rfl⟩
              obtain ⟨B1, hB1⟩ : ∃ a, a = rotl ra 30 := ⟨_, rfl⟩
              obtain ⟨B2, hB2⟩ : ∃ a, a = rotl ra 19 := ⟨_, rfl⟩
              obtain ⟨B3, hB3⟩ : ∃ a, a = rotl ra 10 := ⟨_, rfl⟩
              rw [← hA1] at R6
              rw [← hA2] at R11
              rw [← hA3] at R25
              rw [← hB1] at R2
              rw [← hB2] at R13
              rw [← hB3] at R22
              have ba1 : A1 < 4294967296 := by rw [hA1]; exact rotl_lt _ _ be
              have ba2 : A2 < 4294967296 := by rw [hA2]; exact rotl_lt _ _ be
              have ba3 : A3 < 4294967296 := by rw [hA3]; exact rotl_lt _ _ be
              have bb1 : B1 < 4294967296 := by rw [hB1]; exact rotl_lt _ _ ba
              have bb2 : B2 < 4294967296 := by rw [hB2]; exact rotl_lt _ _ ba
              have bb3 : B3 < 4294967296 := by rw [hB3]; exact rotl_lt _ _ ba
              obtain ⟨X1, hX1⟩ : ∃ a, a = A1 ^^^ A2 := ⟨_, rfl⟩
              have bX1 : X1 < 4294967296 := by rw [hX1]; exact xor_lt32 ba1 ba2
              obtain ⟨X2, hX2⟩ : ∃ a, a = X1 ^^^ A3 := ⟨_, rfl⟩
              have e1 := bits_xor_u32 ba1 ba2
              have e2 := bits_xor_u32 bX1 ba3
              rw [← hX1] at e1
              rw [← hX2] at e2
              obtain ⟨F1, hF1⟩ : ∃ a, a = rf ^^^ rg := ⟨_, rfl⟩
              have bF1 : F1 < 4294967296 := by rw [hF1]; exact xor_lt32 bf bg
              obtain ⟨F2, hF2⟩ : ∃ a, a = re &&& F1 := ⟨_, rfl⟩
              have bF2 : F2 < 4294967296 := by rw [hF2]; exact and_lt32 bF1
              obtain ⟨F3, hF3⟩ : ∃ a, a = rg ^^^ F2 := ⟨_, rfl⟩
              have e3 := bits_xor_u32 bf bg
              have e4 := bits_and_u32 be bF1
              have e5 := bits_xor_u32 bg bF2
              rw [← hF1] at e3
              rw [← hF2] at e4
              rw [← hF3] at e5
              obtain ⟨H1, hH1⟩ : ∃ a, a = (rh + X2) % 4294967296 := ⟨_, rfl⟩
              obtain ⟨H2, hH2⟩ : ∃ a, a = (H1 + F3) % 4294967296 := ⟨_, rfl⟩
              obtain ⟨H3, hH3⟩ : ∃ a, a = (H2 + K) % 4294967296 := ⟨_, rfl⟩
              obtain ⟨ON, hON⟩ : ∃ a, a = (H3 + Wk) % 4294967296 := ⟨_, rfl⟩
              have u1 : IntKind.u32.wrap ((rh : Int) + (X2 : Int)) = (H1 : Int) := by rw [wrap_u32']; omega
              have u2 : IntKind.u32.wrap ((H1 : Int) + (F3 : Int)) = (H2 : Int) := by rw [wrap_u32']; omega
              have u3 : IntKind.u32.wrap ((H2 : Int) + (K : Int)) = (H3 : Int) := by rw [wrap_u32']; omega
              have u4 : IntKind.u32.wrap ((H3 : Int) + (Wk : Int)) = (ON : Int) := by rw [wrap_u32']; omega
              obtain ⟨Y1, hY1⟩ : ∃ a, a = B1 ^^^ B2 := ⟨_, rfl⟩
              have bY1 : Y1 < 4294967296 := by rw [hY1]; exact xor_lt32 bb1 bb2
              obtain ⟨Y2, hY2⟩ : ∃ a, a = Y1 ^^^ B3 := ⟨_, rfl⟩
              have e6 := bits_xor_u32 bb1 bb2
              have e7 := bits_xor_u32 bY1 bb3
              rw [← hY1] at e6
              rw [← hY2] at e7
              obtain ⟨M1, hM1⟩ : ∃ a, a = ra &&& rb := ⟨_, rfl⟩
              obtain ⟨M2, hM2⟩ : ∃ a, a = ra ||| rb := ⟨_, rfl⟩
              have bM1 : M1 < 4294967296 := by rw [hM1]; exact and_lt32 bb
              have bM2 : M2 < 4294967296 := by rw [hM2]; exact or_lt32 ba bb
              obtain ⟨M3, hM3⟩ : ∃ a, a = rc &&& M2 := ⟨_, rfl⟩
              have bM3 : M3 < 4294967296 := by rw [hM3]; exact and_lt32 bM2
              obtain ⟨M4, hM4⟩ : ∃ a, a = M1 ||| M3 := ⟨_, rfl⟩
              have e8 := bits_and_u32 ba bb
              have e9 := bits_or_u32 ba bb
              have e10 := bits_and_u32 bc bM2
              have e11 := bits_or_u32 bM1 bM3
              rw [← hM1] at e8
              rw [← hM2] at e9
              rw [← hM3] at e10
              rw [← hM4] at e11
              obtain ⟨TW, hTW⟩ : ∃ a, a = (Y2 + M4) % 4294967296 := ⟨_, rfl⟩
              obtain ⟨ND, hND⟩ : ∃ a, a = (rd + ON) % 4294967296 := ⟨_, rfl⟩
              obtain ⟨NA, hNA⟩ : ∃ a, a = (ON + TW) % 4294967296 := ⟨_, rfl⟩
              have m1 : ((Y2 : Int) + (M4 : Int)) % 4294967296 = (TW : Int) := by omega
              have m2 : ((rd : Int) + (ON : Int)) % 4294967296 = (ND : Int) := by omega
              have m3 : ((ON : Int) + (TW : Int)) % 4294967296 = (NA : Int) := by omega
              have hnew : (⟨NA, ra, rb, rc, ND, re, rf, rg⟩ : S8) = shaRun ⟨s0, s1, s2, s3, s4, s5, s6, s7⟩ (sched p 64) (k + 1) := by
                have hO : ON = shaOne ⟨ra, rb, rc, rd, re, rf, rg, rh⟩ K Wk := by
                  unfold shaOne shaB1 shaCh
                  dsimp only
                  rw [← hA1, ← hA2, ← hA3, ← hX1, ← hX2, ← hF1, ← hF2, ← hF3]
                  omega
                have hT : TW = shaTwo ⟨ra, rb, rc, rd, re, rf, rg, rh⟩ := by
                  unfold shaTwo shaB0 shaMaj
                  dsimp only
                  rw [← hB1, ← hB2, ← hB3, ← hY1, ← hY2, ← hM1, ← hM2, ← hM3, ← hM4, hTW]
                rw [shaRun, ← HR.out, ← hK, ← hWk, shaRound, ← hO, ← hT, ← hND, ← hNA]
              have HNEW := Lib.hid hnew
              have HR6 := Lib.hid R6
              have HR11 := Lib.hid R11
              have HR25 := Lib.hid R25
              have HR2 := Lib.hid R2
              have HR13 := Lib.hid R13
              have HR22 := Lib.hid R22
              clear hK hWk bK bW cells R6 R11 R25 R2 R13 R22 hA1 hA2 hA3 hB1 hB2 hB3 ba1 ba2 ba3 bb1 bb2 bb3 hX1 bX1 hX2 hF1 bF1 hF2 bF2 hF3 hH1 hH2 hH3 hON hY1 bY1 hY2 hM1 hM2 bM1 bM2 hM3 bM3 hM4 hTW hND hNA hnew ba bb bc bd be bf bg bh
              go_upto_region 17 with fail
              refine wp_region_held_drew (S := (fun wx => wx.cell? ⟨1, k, none⟩ = some (.int .u32 K) ∧ wx.cell? ⟨gw, k, none⟩ = some (.int .u32 Wk))) (by kernel_rfl) ?_ (fun hHeld => ?_)
              · exact HC.out wr.drew (Keeps.refl _ _).drew
              refine' wpAnyH_take (i := 0) (v := _) rfl (by kernel_rfl) (by kernel_rfl) (by kernel_rfl) (fun _ _ _ h => h) (Or.inl ⟨by rfl, ?_⟩) (by assumption) ?_
              rotate_left 1
              · (intro w0 hSw; (try dsimp only at hSw); go_split_ands; go_simp; (try with_reducible rfl))
              try simp only [Act.put, List.setIfInBounds_toArray, List.set_cons_zero, List.set_cons_succ, List.getElem_toArray, List.getElem_cons_zero, List.getElem_cons_succ]
              refine' wpAnyH_take (i := 1) (v := _) rfl (by kernel_rfl) (by kernel_rfl) (by kernel_rfl) (fun _ _ _ h => h) (Or.inl ⟨by rfl, ?_⟩) (by assumption) ?_
              rotate_left 1
              · (intro w0 hSw; (try dsimp only at hSw); go_split_ands; go_simp; (try with_reducible rfl))
              try simp only [Act.put, List.setIfInBounds_toArray, List.set_cons_zero, List.set_cons_succ, List.getElem_toArray, List.getElem_cons_zero, List.getElem_cons_succ]
              refine hc_take (i := 2) (v := .int .u32 A1) rfl (by kernel_rfl) (by kernel_rfl) (by kernel_rfl) (fun _ _ _ h => h) (yieldsC_call (by rfl) 81 _ _ rfl Tryd.f81 Tryd.func81 (by kernel_rfl) rfl #[.int .u32 re, .int .i64 (-6)] (by simp [Act.eval]) (fun w0 _ => HR6.out w0)) (by assumption) ?_
              try simp only [Act.put, List.setIfInBounds_toArray, List.set_cons_zero, List.set_cons_succ, List.getElem_toArray, List.getElem_cons_zero, List.getElem_cons_succ]
              refine' wpAnyH_take (i := 3) (v := _) rfl (by kernel_rfl) (by kernel_rfl) (by kernel_rfl) (fun _ _ _ h => h) (Or.inl ⟨by rfl, ?_⟩) (by assumption) ?_
              rotate_left 1
              · (intro w0 hSw; (try dsimp only at hSw); go_split_ands; go_simp; (try with_reducible rfl))
              try simp only [Act.put, List.setIfInBounds_toArray, List.set_cons_zero, List.set_cons_succ, List.getElem_toArray, List.getElem_cons_zero, List.getElem_cons_succ]
              refine hc_take (i := 4) (v := .int .u32 A2) rfl (by kernel_rfl) (by kernel_rfl) (by kernel_rfl) (fun _ _ _ h => h) (yieldsC_call (by rfl) 81 _ _ rfl Tryd.f81 Tryd.func81 (by kernel_rfl) rfl #[.int .u32 re, .int .i64 (-11)] (by simp [Act.eval]) (fun w0 _ => HR11.out w0)) (by assumption) ?_
              try simp only [Act.put, List.setIfInBounds_toArray, List.set_cons_zero, List.set_cons_succ, List.getElem_toArray, List.getElem_cons_zero, List.getElem_cons_succ]
              refine' wpAnyH_take (i := 5) (v := _) rfl (by kernel_rfl) (by kernel_rfl) (by kernel_rfl) (fun _ _ _ h => h) (Or.inl ⟨by rfl, ?_⟩) (by assumption) ?_
              rotate_left 1
              · (intro w0 hSw; (try dsimp only at hSw); go_split_ands; go_simp; (try with_reducible rfl))
              try simp only [Act.put, List.setIfInBounds_toArray, List.set_cons_zero, List.set_cons_succ, List.getElem_toArray, List.getElem_cons_zero, List.getElem_cons_succ]
              refine' wpAnyH_take (i := 6) (v := _) rfl (by kernel_rfl) (by kernel_rfl) (by kernel_rfl) (fun _ _ _ h => h) (Or.inl ⟨by rfl, ?_⟩) (by assumption) ?_
              rotate_left 1
              · (intro w0 hSw; (try dsimp only at hSw); go_split_ands; go_simp; (try with_reducible rfl))
              try simp only [Act.put, List.setIfInBounds_toArray, List.set_cons_zero, List.set_cons_succ, List.getElem_toArray, List.getElem_cons_zero, List.getElem_cons_succ]
              refine hc_take (i := 7) (v := .int .u32 A3) rfl (by kernel_rfl) (by kernel_rfl) (by kernel_rfl) (fun _ _ _ h => h) (yieldsC_call (by rfl) 81 _ _ rfl Tryd.f81 Tryd.func81 (by kernel_rfl) rfl #[.int .u32 re, .int .i64 (-25)] (by simp [Act.eval]) (fun w0 _ => HR25.out w0)) (by assumption) ?_
              try simp only [Act.put, List.setIfInBounds_toArray, List.set_cons_zero, List.set_cons_succ, List.getElem_toArray, List.getElem_cons_zero, List.getElem_cons_succ]
              refine' wpAnyH_take (i := 8) (v := _) rfl (by kernel_rfl) (by kernel_rfl) (by kernel_rfl) (fun _ _ _ h => h) (Or.inl ⟨by rfl, ?_⟩) (by assumption) ?_
              rotate_left 1
              · (intro w0 hSw; (try dsimp only at hSw); go_split_ands; go_simp; (try with_reducible rfl))
              try simp only [Act.put, List.setIfInBounds_toArray, List.set_cons_zero, List.set_cons_succ, List.getElem_toArray, List.getElem_cons_zero, List.getElem_cons_succ]
              refine' wpAnyH_take (i := 9) (v := _) rfl (by kernel_rfl) (by kernel_rfl) (by kernel_rfl) (fun _ _ _ h => h) (Or.inl ⟨by rfl, ?_⟩) (by assumption) ?_
              rotate_left 1
              · (intro w0 hSw; (try dsimp only at hSw); go_split_ands; go_simp; (try with_reducible rfl))
              try simp only [Act.put, List.setIfInBounds_toArray, List.set_cons_zero, List.set_cons_succ, List.getElem_toArray, List.getElem_cons_zero, List.getElem_cons_succ]
              refine' wpAnyH_take (i := 10) (v := _) rfl (by kernel_rfl) (by kernel_rfl) (by kernel_rfl) (fun _ _ _ h => h) (Or.inl ⟨by rfl, ?_⟩) (by assumption) ?_
              rotate_left 1
              · (intro w0 hSw; (try dsimp only at hSw); go_split_ands; go_simp; (try with_reducible rfl))
              try simp only [Act.put, List.setIfInBounds_toArray, List.set_cons_zero, List.set_cons_succ, List.getElem_toArray, List.getElem_cons_zero, List.getElem_cons_succ]
              refine' wpAnyH_take (i := 11) (v := _) rfl (by kernel_rfl) (by kernel_rfl) (by kernel_rfl) (fun _ _ _ h => h) (Or.inl ⟨by rfl, ?_⟩) (by assumption) ?_
              rotate_left 1
              · (intro w0 hSw; (try dsimp only at hSw); go_split_ands; go_simp; (try with_reducible rfl))
              try simp only [Act.put, List.setIfInBounds_toArray, List.set_cons_zero, List.set_cons_succ, List.getElem_toArray, List.getElem_cons_zero, List.getElem_cons_succ]
              refine' wpAnyH_take (i := 12) (v := _) rfl (by kernel_rfl) (by kernel_rfl) (by kernel_rfl) (fun _ _ _ h => h) (Or.inl ⟨by rfl, ?_⟩) (by assumption) ?_
              rotate_left 1
              · (intro w0 hSw; (try dsimp only at hSw); go_split_ands; go_simp; (try with_reducible rfl))
              try simp only [Act.put, List.setIfInBounds_toArray, List.set_cons_zero, List.set_cons_succ, List.getElem_toArray, List.getElem_cons_zero, List.getElem_cons_succ]
              refine' wpAnyH_take (i := 13) (v := _) rfl (by kernel_rfl) (by kernel_rfl) (by kernel_rfl) (fun _ _ _ h => h) (Or.inl ⟨by rfl, ?_⟩) (by assumption) ?_
              rotate_left 1
              · (intro w0 hSw; (try dsimp only at hSw); go_split_ands; go_simp; (try with_reducible rfl))
              try simp only [Act.put, List.setIfInBounds_toArray, List.set_cons_zero, List.set_cons_succ, List.getElem_toArray, List.getElem_cons_zero, List.getElem_cons_succ]
              refine' wpAnyH_take (i := 14) (v := _) rfl (by kernel_rfl) (by kernel_rfl) (by kernel_rfl) (fun _ _ _ h => h) (Or.inl ⟨by rfl, ?_⟩) (by assumption) ?_
              rotate_left 1
              · (intro w0 hSw; (try dsimp only at hSw); go_split_ands; go_simp; (try with_reducible rfl))
              try simp only [Act.put, List.setIfInBounds_toArray, List.set_cons_zero, List.set_cons_succ, List.getElem_toArray, List.getElem_cons_zero, List.getElem_cons_succ]
              refine' wpAnyH_take (i := 15) (v := _) rfl (by kernel_rfl) (by kernel_rfl) (by kernel_rfl) (fun _ _ _ h => h) (Or.inl ⟨by rfl, ?_⟩) (by assumption) ?_
              rotate_left 1
              · (intro w0 hSw; (try dsimp only at hSw); go_split_ands; go_simp; (try with_reducible rfl))
              try simp only [Act.put, List.setIfInBounds_toArray, List.set_cons_zero, List.set_cons_succ, List.getElem_toArray, List.getElem_cons_zero, List.getElem_cons_succ]
              refine' wpAnyH_take (i := 16) (v := _) rfl (by kernel_rfl) (by kernel_rfl) (by kernel_rfl) (fun _ _ _ h => h) (Or.inl ⟨by rfl, ?_⟩) (by assumption) ?_
              rotate_left 1
              · (intro w0 hSw; (try dsimp only at hSw); go_split_ands; go_simp; (try with_reducible rfl))
              try simp only [Act.put, List.setIfInBounds_toArray, List.set_cons_zero, List.set_cons_succ, List.getElem_toArray, List.getElem_cons_zero, List.getElem_cons_succ]
              refine' wpAnyH_take (i := 17) (v := _) rfl (by kernel_rfl) (by kernel_rfl) (by kernel_rfl) (fun _ _ _ h => h) (Or.inl ⟨by rfl, ?_⟩) (by assumption) ?_
              rotate_left 1
              · (intro w0 hSw; (try dsimp only at hSw); go_split_ands; go_simp; (try with_reducible rfl))
              try simp only [Act.put, List.setIfInBounds_toArray, List.set_cons_zero, List.set_cons_succ, List.getElem_toArray, List.getElem_cons_zero, List.getElem_cons_succ]
              refine' wpAnyH_take (i := 18) (v := _) rfl (by kernel_rfl) (by kernel_rfl) (by kernel_rfl) (fun _ _ _ h => h) (Or.inl ⟨by rfl, ?_⟩) (by assumption) ?_
              rotate_left 1
              · (intro w0 hSw; (try dsimp only at hSw); go_split_ands; go_simp; (try with_reducible rfl))
              try simp only [Act.put, List.setIfInBounds_toArray, List.set_cons_zero, List.set_cons_succ, List.getElem_toArray, List.getElem_cons_zero, List.getElem_cons_succ]
              refine' wpAnyH_take (i := 19) (v := _) rfl (by kernel_rfl) (by kernel_rfl) (by kernel_rfl) (fun _ _ _ h => h) (Or.inl ⟨by rfl, ?_⟩) (by assumption) ?_
              rotate_left 1
              · (intro w0 hSw; (try dsimp only at hSw); go_split_ands; go_simp; (try with_reducible rfl))
              try simp only [Act.put, List.setIfInBounds_toArray, List.set_cons_zero, List.set_cons_succ, List.getElem_toArray, List.getElem_cons_zero, List.getElem_cons_succ]
              refine' wpAnyH_take (i := 20) (v := _) rfl (by kernel_rfl) (by kernel_rfl) (by kernel_rfl) (fun _ _ _ h => h) (Or.inl ⟨by rfl, ?_⟩) (by assumption) ?_
              rotate_left 1
              · (intro w0 hSw; (try dsimp only at hSw); go_split_ands; go_simp; (try with_reducible rfl))
              try simp only [Act.put, List.setIfInBounds_toArray, List.set_cons_zero, List.set_cons_succ, List.getElem_toArray, List.getElem_cons_zero, List.getElem_cons_succ]
              refine' wpAnyH_take (i := 21) (v := _) rfl (by kernel_rfl) (by kernel_rfl) (by kernel_rfl) (fun _ _ _ h => h) (Or.inl ⟨by rfl, ?_⟩) (by assumption) ?_
              rotate_left 1
              · (intro w0 hSw; (try dsimp only at hSw); go_split_ands; go_simp; (try with_reducible rfl))
              try simp only [Act.put, List.setIfInBounds_toArray, List.set_cons_zero, List.set_cons_succ, List.getElem_toArray, List.getElem_cons_zero, List.getElem_cons_succ]
              refine' wpAnyH_take (i := 22) (v := _) rfl (by kernel_rfl) (by kernel_rfl) (by kernel_rfl) (fun _ _ _ h => h) (Or.inl ⟨by rfl, ?_⟩) (by assumption) ?_
              rotate_left 1
              · (intro w0 hSw; (try dsimp only at hSw); go_split_ands; go_simp; (try with_reducible rfl))
              try simp only [Act.put, List.setIfInBounds_toArray, List.set_cons_zero, List.set_cons_succ, List.getElem_toArray, List.getElem_cons_zero, List.getElem_cons_succ]
              refine' wpAnyH_take (i := 23) (v := _) rfl (by kernel_rfl) (by kernel_rfl) (by kernel_rfl) (fun _ _ _ h => h) (Or.inl ⟨by rfl, ?_⟩) (by assumption) ?_
              rotate_left 1
              · (intro w0 hSw; (try dsimp only at hSw); go_split_ands; go_simp; (try with_reducible rfl))
              try simp only [Act.put, List.setIfInBounds_toArray, List.set_cons_zero, List.set_cons_succ, List.getElem_toArray, List.getElem_cons_zero, List.getElem_cons_succ]
              refine' wpAnyH_take (i := 24) (v := _) rfl (by kernel_rfl) (by kernel_rfl) (by kernel_rfl) (fun _ _ _ h => h) (Or.inl ⟨by rfl, ?_⟩) (by assumption) ?_
              rotate_left 1
              · (intro w0 hSw; (try dsimp only at hSw); go_split_ands; go_simp; (try with_reducible rfl))
              try simp only [Act.put, List.setIfInBounds_toArray, List.set_cons_zero, List.set_cons_succ, List.getElem_toArray, List.getElem_cons_zero, List.getElem_cons_succ]
              refine' wpAnyH_take (i := 25) (v := _) rfl (by kernel_rfl) (by kernel_rfl) (by kernel_rfl) (fun _ _ _ h => h) (Or.inl ⟨by rfl, ?_⟩) (by assumption) ?_
              rotate_left 1
              · (intro w0 hSw; (try dsimp only at hSw); go_split_ands; go_simp; (try with_reducible rfl))
              try simp only [Act.put, List.setIfInBounds_toArray, List.set_cons_zero, List.set_cons_succ, List.getElem_toArray, List.getElem_cons_zero, List.getElem_cons_succ]
              refine' wpAnyH_take (i := 26) (v := _) rfl (by kernel_rfl) (by kernel_rfl) (by kernel_rfl) (fun _ _ _ h => h) (Or.inl ⟨by rfl, ?_⟩) (by assumption) ?_
              rotate_left 1
              · (intro w0 hSw; (try dsimp only at hSw); go_split_ands; go_simp; (try with_reducible rfl))
              try simp only [Act.put, List.setIfInBounds_toArray, List.set_cons_zero, List.set_cons_succ, List.getElem_toArray, List.getElem_cons_zero, List.getElem_cons_succ]
              refine wpAnyH_done (by kernel_rfl) ?_ _
              clear hHeld
              go_wp2_with (first | (go_at_call 81; ((with_reducible refine (HR2.out _).mono ?_); rintro e w' ⟨rfl, rfl⟩)) | (go_at_call 81; ((with_reducible refine (HR13.out _).mono ?_); rintro e w' ⟨rfl, rfl⟩)) | (go_at_call 81; ((with_reducible refine (HR22.out _).mono ?_); rintro e w' ⟨rfl, rfl⟩)))
              go_roundw
              case rel =>
                (repeat apply Exists.intro)
                refine ⟨⟨k + 1, _, ?_, HNEW.out, ?_, rfl, rfl, rfl, ?_, rfl, rfl, rfl, ?_, ?_⟩, rfl⟩
                · omega
                · exact congrArg (Value.int .u32) m3
                · exact congrArg (Value.int .u32) m2
                · go_num
                · exact HKR.out.drew
              case measure => simp [intOf]; omega
            · have k1 : ¬ (k : Int) < 64 := by omega
              obtain rfl : k = 64 := by omega
              obtain ⟨r0, r1, r2, r3, r4, r5, r6, r7⟩ := r
              obtain ⟨wz, rfl⟩ : ∃ x : World, x = wr := ⟨_, rfl⟩
              have HFIN := Lib.hid (show shaBlock ⟨s0, s1, s2, s3, s4, s5, s6, s7⟩ p = S8.add ⟨s0, s1, s2, s3, s4, s5, s6, s7⟩ ⟨r0, r1, r2, r3, r4, r5, r6, r7⟩ by rw [HR.out]; rfl)
              dsimp only
              have hst := HST.out wz (HKo.out.trans (G := []) HKR.out (by simp))
              have hh0 : wz.heap[g]? = some (.cells (((addW [s0, s1, s2, s3, s4, s5, s6, s7] [r0, r1, r2, r3, r4, r5, r6, r7] 0).map W32) ++ rest).toArray 126 (0, 0)) := hst
              have HH0 := Lib.hid hh0
              have HKW := Lib.hid (HKo.out.trans (G := []) HKR.out (by simp))
              clear hst hh0 k1 k0 hlt hk HKo HWo HTAB HST HCS HOK HR
              go_wp2_with fail
              go_loopw [215] (fun iv wx => ∃ k : Nat, k ≤ 8 ∧ iv = .int .i64 k ∧ wx.heap[g]? = some (.cells (((addW [s0, s1, s2, s3, s4, s5, s6, s7] [r0, r1, r2, r3, r4, r5, r6, r7] k).map W32) ++ rest).toArray 126 (0, 0)) ∧ Keeps [g] wz wx) (fun iv _ => 8 - (intOf iv).toNat)
              case atStart => exact ⟨0, by omega, rfl, HH0.out, Keeps.refl _ _⟩
              case round =>
                obtain ⟨k, hk, rfl, hh, hkx⟩ := hrel
                have HH := Lib.hid hh
                have HKX := Lib.hid hkx
                clear hh hkx
                match k, hk with
                | 0, _ =>
                  obtain ⟨N, hN⟩ : ∃ a, a = (s0 + r0) % 4294967296 := ⟨_, rfl⟩
                  have u1 : IntKind.u32.wrap ((s0 : Int) + (r0 : Int)) = (N : Int) := by rw [wrap_u32']; omega
                  have i1 : ∀ w, (Instr.index 122 (.agg #[.int .u32 r0, .int .u32 r1, .int .u32 r2, .int .u32 r3, .int .u32 r4, .int .u32 r5, .int .u32 r6, .int .u32 r7]) (.int .i64 ((0 : Nat) : Int))).run Tryd.prog w = .ok (.int .u32 r0) w := fun _ => by kernel_rfl
                  have HN := Lib.hid (add_cell (x := N) HH.out (j := 0) (by simp [addW]))
                  rw [hN] at HN
                  have HN' := Lib.hid hN
                  have c1 : wr.cell? ⟨g, 0, none⟩ = some (.int .u32 s0) := cell_sets_of' HH.out rfl
                  have f1 := frozen_of_row wr g 0 _ _ HH.out
                  clear hN
                  go_upto_region 24 with (first | (refine wl_index rfl 122 (.tmp 214) (.tmp 215) rfl ?_; refine ⟨_, _, i1 _, ?_⟩; try simp only [Act.put, List.setIfInBounds_toArray, List.set_cons_zero, List.set_cons_succ, List.getElem_toArray, List.getElem_cons_zero, List.getElem_cons_succ]))
                  refine rl_start (fun w' => w'.cell? ⟨g, 0, none⟩ = some (.int .u32 s0)) 11 (by kernel_rfl) ?_ (fun hHeld => ?_)
                  · exact c1
                  refine' rl_take (i := 0) (v := _) rfl (by kernel_rfl) (by kernel_rfl) (by kernel_rfl) (by kernel_rfl) (fun _ _ _ h => h) (Or.inl ⟨by rfl, ?_⟩) (by assumption) ?_
                  rotate_left 1
                  · (intro w0 hSw; (try dsimp only at hSw); go_split_ands; go_simp; (try with_reducible rfl))
                  try simp only [Act.put, List.setIfInBounds_toArray, List.set_cons_zero, List.set_cons_succ, List.getElem_toArray, List.getElem_cons_zero, List.getElem_cons_succ]
                  refine' rl_take (i := 1) (v := _) rfl (by kernel_rfl) (by kernel_rfl) (by kernel_rfl) (by kernel_rfl) (fun _ _ _ h => h) (Or.inl ⟨by rfl, ?_⟩) (by assumption) ?_
                  rotate_left 1
                  · (intro w0 hSw; (try dsimp only at hSw); go_split_ands; go_simp; (try with_reducible rfl))
                  try simp only [Act.put, List.setIfInBounds_toArray, List.set_cons_zero, List.set_cons_succ, List.getElem_toArray, List.getElem_cons_zero, List.getElem_cons_succ]
                  refine' rl_take (i := 2) (v := _) rfl (by kernel_rfl) (by kernel_rfl) (by kernel_rfl) (by kernel_rfl) (fun _ _ _ h => h) (Or.inl ⟨by rfl, ?_⟩) (by assumption) ?_
                  rotate_left 1
                  · (intro w0 hSw; (try dsimp only at hSw); go_split_ands; go_simp; (try with_reducible rfl))
                  try simp only [Act.put, List.setIfInBounds_toArray, List.set_cons_zero, List.set_cons_succ, List.getElem_toArray, List.getElem_cons_zero, List.getElem_cons_succ]
                  refine' rl_take (i := 3) (v := _) rfl (by kernel_rfl) (by kernel_rfl) (by kernel_rfl) (by kernel_rfl) (fun _ _ _ h => h) (Or.inl ⟨by rfl, ?_⟩) (by assumption) ?_
                  rotate_left 1
                  · (intro w0 hSw; (try dsimp only at hSw); go_split_ands; go_simp; (try with_reducible rfl))
                  try simp only [Act.put, List.setIfInBounds_toArray, List.set_cons_zero, List.set_cons_succ, List.getElem_toArray, List.getElem_cons_zero, List.getElem_cons_succ]
                  refine' rl_take (i := 4) (v := _) rfl (by kernel_rfl) (by kernel_rfl) (by kernel_rfl) (by kernel_rfl) (fun _ _ _ h => h) (Or.inl ⟨by rfl, ?_⟩) (by assumption) ?_
                  rotate_left 1
                  · (intro w0 hSw; (try dsimp only at hSw); go_split_ands; go_simp; (try with_reducible rfl))
                  try simp only [Act.put, List.setIfInBounds_toArray, List.set_cons_zero, List.set_cons_succ, List.getElem_toArray, List.getElem_cons_zero, List.getElem_cons_succ]
                  refine' rl_take (i := 5) (v := _) rfl (by kernel_rfl) (by kernel_rfl) (by kernel_rfl) (by kernel_rfl) (fun _ _ _ h => h) (Or.inl ⟨by rfl, ?_⟩) (by assumption) ?_
                  rotate_left 1
                  · (intro w0 hSw; (try dsimp only at hSw); go_split_ands; go_simp; (try with_reducible rfl))
                  try simp only [Act.put, List.setIfInBounds_toArray, List.set_cons_zero, List.set_cons_succ, List.getElem_toArray, List.getElem_cons_zero, List.getElem_cons_succ]
                  refine' rl_take (i := 6) (v := _) rfl (by kernel_rfl) (by kernel_rfl) (by kernel_rfl) (by kernel_rfl) (fun _ _ _ h => h) (Or.inl ⟨by rfl, ?_⟩) (by assumption) ?_
                  rotate_left 1
                  · (intro w0 hSw; (try dsimp only at hSw); go_split_ands; go_simp; (try with_reducible rfl))
                  try simp only [Act.put, List.setIfInBounds_toArray, List.set_cons_zero, List.set_cons_succ, List.getElem_toArray, List.getElem_cons_zero, List.getElem_cons_succ]
                  refine' rl_take (i := 7) (v := _) rfl (by kernel_rfl) (by kernel_rfl) (by kernel_rfl) (by kernel_rfl) (fun _ _ _ h => h) (Or.inl ⟨by rfl, ?_⟩) (by assumption) ?_
                  rotate_left 1
                  · (intro w0 hSw; (try dsimp only at hSw); go_split_ands; go_simp; (try with_reducible rfl))
                  try simp only [Act.put, List.setIfInBounds_toArray, List.set_cons_zero, List.set_cons_succ, List.getElem_toArray, List.getElem_cons_zero, List.getElem_cons_succ]
                  refine rl_act (i := 8) (by kernel_rfl) rfl (fun K hK => ?_)
                  go_simp
                  refine hK.out _ _ ?_ (fun hHeld => ?_)
                  · exact hHeld
                  clear hK K
                  try simp only [Act.put, List.setIfInBounds_toArray, List.set_cons_zero, List.set_cons_succ, List.getElem_toArray, List.getElem_cons_zero, List.getElem_cons_succ]
                  refine rl_act (i := 9) (by kernel_rfl) rfl (fun K hK => ?_)
                  go_simp
                  refine hK.out _ _ ?_ (fun hHeld => ?_)
                  · exact hHeld
                  clear hK K
                  try simp only [Act.put, List.setIfInBounds_toArray, List.set_cons_zero, List.set_cons_succ, List.getElem_toArray, List.getElem_cons_zero, List.getElem_cons_succ]
                  refine' rl_take (i := 10) (v := _) rfl (by kernel_rfl) (by kernel_rfl) (by kernel_rfl) (by kernel_rfl) (fun _ _ _ h => h) (Or.inl ⟨by rfl, ?_⟩) (by assumption) ?_
                  rotate_left 1
                  · (intro w0 hSw; (try dsimp only at hSw); go_split_ands; go_simp; (try with_reducible rfl))
                  try simp only [Act.put, List.setIfInBounds_toArray, List.set_cons_zero, List.set_cons_succ, List.getElem_toArray, List.getElem_cons_zero, List.getElem_cons_succ]
                  refine rl_last (by kernel_rfl) (by kernel_rfl) rfl (fun K hK => ?_)
                  go_simp
                  refine hK.out _ _ ?_
                  clear hK K
                  try simp only [Act.put, List.setIfInBounds_toArray, List.set_cons_zero, List.set_cons_succ, List.getElem_toArray, List.getElem_cons_zero, List.getElem_cons_succ]
                  clear hHeld
                  go_wp2_with fail
                  go_roundw
                  case rel =>
                    (repeat apply Exists.intro)
                    refine ⟨⟨1, ?_, ?_, ?_, ?_⟩, rfl⟩
                    · omega
                    · go_num
                    · rw [HN'.out]
                      exact HN.out
                    · exact (HKX.out.setCell (p := ⟨g, 0, none⟩) (.inl (by simp)) _).drew
                  case measure => simp [intOf]
                | 1, _ =>
                  obtain ⟨N, hN⟩ : ∃ a, a = (s1 + r1) % 4294967296 := ⟨_, rfl⟩
                  have u1 : IntKind.u32.wrap ((s1 : Int) + (r1 : Int)) = (N : Int) := by rw [wrap_u32']; omega
                  have i1 : ∀ w, (Instr.index 122 (.agg #[.int .u32 r0, .int .u32 r1, .int .u32 r2, .int .u32 r3, .int .u32 r4, .int .u32 r5, .int .u32 r6, .int .u32 r7]) (.int .i64 ((1 : Nat) : Int))).run Tryd.prog w = .ok (.int .u32 r1) w := fun _ => by kernel_rfl
                  have HN := Lib.hid (add_cell (x := N) HH.out (j := 1) (by simp [addW]))
                  rw [hN] at HN
                  have HN' := Lib.hid hN
                  have c1 : wr.cell? ⟨g, 1, none⟩ = some (.int .u32 s1) := cell_sets_of' HH.out rfl
                  have f1 := frozen_of_row wr g 1 _ _ HH.out
                  clear hN
                  go_upto_region 24 with (first | (refine wl_index rfl 122 (.tmp 214) (.tmp 215) rfl ?_; refine ⟨_, _, i1 _, ?_⟩; try simp only [Act.put, List.setIfInBounds_toArray, List.set_cons_zero, List.set_cons_succ, List.getElem_toArray, List.getElem_cons_zero, List.getElem_cons_succ]))
                  refine rl_start (fun w' => w'.cell? ⟨g, 1, none⟩ = some (.int .u32 s1)) 11 (by kernel_rfl) ?_ (fun hHeld => ?_)
                  · exact c1
                  refine' rl_take (i := 0) (v := _) rfl (by kernel_rfl) (by kernel_rfl) (by kernel_rfl) (by kernel_rfl) (fun _ _ _ h => h) (Or.inl ⟨by rfl, ?_⟩) (by assumption) ?_
                  rotate_left 1
                  · (intro w0 hSw; (try dsimp only at hSw); go_split_ands; go_simp; (try with_reducible rfl))
                  try simp only [Act.put, List.setIfInBounds_toArray, List.set_cons_zero, List.set_cons_succ, List.getElem_toArray, List.getElem_cons_zero, List.getElem_cons_succ]
                  refine' rl_take (i := 1) (v := _) rfl (by kernel_rfl) (by kernel_rfl) (by kernel_rfl) (by kernel_rfl) (fun _ _ _ h => h) (Or.inl ⟨by rfl, ?_⟩) (by assumption) ?_
                  rotate_left 1
                  · (intro w0 hSw; (try dsimp only at hSw); go_split_ands; go_simp; (try with_reducible rfl))
                  try simp only [Act.put, List.setIfInBounds_toArray, List.set_cons_zero, List.set_cons_succ, List.getElem_toArray, List.getElem_cons_zero, List.getElem_cons_succ]
                  refine' rl_take (i := 2) (v := _) rfl (by kernel_rfl) (by kernel_rfl) (by kernel_rfl) (by kernel_rfl) (fun _ _ _ h => h) (Or.inl ⟨by rfl, ?_⟩) (by assumption) ?_
                  rotate_left 1
                  · (intro w0 hSw; (try dsimp only at hSw); go_split_ands; go_simp; (try with_reducible rfl))
                  try simp only [Act.put, List.setIfInBounds_toArray, List.set_cons_zero, List.set_cons_succ, List.getElem_toArray, List.getElem_cons_zero, List.getElem_cons_succ]
                  refine' rl_take (i := 3) (v := _) rfl (by kernel_rfl) (by kernel_rfl) (by kernel_rfl) (by kernel_rfl) (fun _ _ _ h => h) (Or.inl ⟨by rfl, ?_⟩) (by assumption) ?_
                  rotate_left 1
                  · (intro w0 hSw; (try dsimp only at hSw); go_split_ands; go_simp; (try with_reducible rfl))
                  try simp only [Act.put, List.setIfInBounds_toArray, List.set_cons_zero, List.set_cons_succ, List.getElem_toArray, List.getElem_cons_zero, List.getElem_cons_succ]
                  refine' rl_take (i := 4) (v := _) rfl (by kernel_rfl) (by kernel_rfl) (by kernel_rfl) (by kernel_rfl) (fun _ _ _ h => h) (Or.inl ⟨by rfl, ?_⟩) (by assumption) ?_
                  rotate_left 1
                  · (intro w0 hSw; (try dsimp only at hSw); go_split_ands; go_simp; (try with_reducible rfl))
                  try simp only [Act.put, List.setIfInBounds_toArray, List.set_cons_zero, List.set_cons_succ, List.getElem_toArray, List.getElem_cons_zero, List.getElem_cons_succ]
                  refine' rl_take (i := 5) (v := _) rfl (by kernel_rfl) (by kernel_rfl) (by kernel_rfl) (by kernel_rfl) (fun _ _ _ h => h) (Or.inl ⟨by rfl, ?_⟩) (by assumption) ?_
                  rotate_left 1
                  · (intro w0 hSw; (try dsimp only at hSw); go_split_ands; go_simp; (try with_reducible rfl))
                  try simp only [Act.put, List.setIfInBounds_toArray, List.set_cons_zero, List.set_cons_succ, List.getElem_toArray, List.getElem_cons_zero, List.getElem_cons_succ]
                  refine' rl_take (i := 6) (v := _) rfl (by kernel_rfl) (by kernel_rfl) (by kernel_rfl) (by kernel_rfl) (fun _ _ _ h => h) (Or.inl ⟨by rfl, ?_⟩) (by assumption) ?_
                  rotate_left 1
                  · (intro w0 hSw; (try dsimp only at hSw); go_split_ands; go_simp; (try with_reducible rfl))
                  try simp only [Act.put, List.setIfInBounds_toArray, List.set_cons_zero, List.set_cons_succ, List.getElem_toArray, List.getElem_cons_zero, List.getElem_cons_succ]
                  refine' rl_take (i := 7) (v := _) rfl (by kernel_rfl) (by kernel_rfl) (by kernel_rfl) (by kernel_rfl) (fun _ _ _ h => h) (Or.inl ⟨by rfl, ?_⟩) (by assumption) ?_
                  rotate_left 1
                  · (intro w0 hSw; (try dsimp only at hSw); go_split_ands; go_simp; (try with_reducible rfl))
                  try simp only [Act.put, List.setIfInBounds_toArray, List.set_cons_zero, List.set_cons_succ, List.getElem_toArray, List.getElem_cons_zero, List.getElem_cons_succ]
                  refine rl_act (i := 8) (by kernel_rfl) rfl (fun K hK => ?_)
                  go_simp
                  refine hK.out _ _ ?_ (fun hHeld => ?_)
                  · exact hHeld
                  clear hK K
                  try simp only [Act.put, List.setIfInBounds_toArray, List.set_cons_zero, List.set_cons_succ, List.getElem_toArray, List.getElem_cons_zero, List.getElem_cons_succ]
                  refine rl_act (i := 9) (by kernel_rfl) rfl (fun K hK => ?_)
                  go_simp
                  refine hK.out _ _ ?_ (fun hHeld => ?_)
                  · exact hHeld
                  clear hK K
                  try simp only [Act.put, List.setIfInBounds_toArray, List.set_cons_zero, List.set_cons_succ, List.getElem_toArray, List.getElem_cons_zero, List.getElem_cons_succ]
                  refine' rl_take (i := 10) (v := _) rfl (by kernel_rfl) (by kernel_rfl) (by kernel_rfl) (by kernel_rfl) (fun _ _ _ h => h) (Or.inl ⟨by rfl, ?_⟩) (by assumption) ?_
                  rotate_left 1
                  · (intro w0 hSw; (try dsimp only at hSw); go_split_ands; go_simp; (try with_reducible rfl))
                  try simp only [Act.put, List.setIfInBounds_toArray, List.set_cons_zero, List.set_cons_succ, List.getElem_toArray, List.getElem_cons_zero, List.getElem_cons_succ]
                  refine rl_last (by kernel_rfl) (by kernel_rfl) rfl (fun K hK => ?_)
                  go_simp
                  refine hK.out _ _ ?_
                  clear hK K
                  try simp only [Act.put, List.setIfInBounds_toArray, List.set_cons_zero, List.set_cons_succ, List.getElem_toArray, List.getElem_cons_zero, List.getElem_cons_succ]
                  clear hHeld
                  go_wp2_with fail
                  go_roundw
                  case rel =>
                    (repeat apply Exists.intro)
                    refine ⟨⟨2, ?_, ?_, ?_, ?_⟩, rfl⟩
                    · omega
                    · go_num
                    · rw [HN'.out]
                      exact HN.out
                    · exact (HKX.out.setCell (p := ⟨g, 1, none⟩) (.inl (by simp)) _).drew
                  case measure => simp [intOf]
                | 2, _ =>
                  obtain ⟨N, hN⟩ : ∃ a, a = (s2 + r2) % 4294967296 := ⟨_, rfl⟩
                  have u1 : IntKind.u32.wrap ((s2 : Int) + (r2 : Int)) = (N : Int) := by rw [wrap_u32']; omega
                  have i1 : ∀ w, (Instr.index 122 (.agg #[.int .u32 r0, .int .u32 r1, .int .u32 r2, .int .u32 r3, .int .u32 r4, .int .u32 r5, .int .u32 r6, .int .u32 r7]) (.int .i64 ((2 : Nat) : Int))).run Tryd.prog w = .ok (.int .u32 r2) w := fun _ => by kernel_rfl
                  have HN := Lib.hid (add_cell (x := N) HH.out (j := 2) (by simp [addW]))
                  rw [hN] at HN
                  have HN' := Lib.hid hN
                  have c1 : wr.cell? ⟨g, 2, none⟩ = some (.int .u32 s2) := cell_sets_of' HH.out rfl
                  have f1 := frozen_of_row wr g 2 _ _ HH.out
                  clear hN
                  go_upto_region 24 with (first | (refine wl_index rfl 122 (.tmp 214) (.tmp 215) rfl ?_; refine ⟨_, _, i1 _, ?_⟩; try simp only [Act.put, List.setIfInBounds_toArray, List.set_cons_zero, List.set_cons_succ, List.getElem_toArray, List.getElem_cons_zero, List.getElem_cons_succ]))
                  refine rl_start (fun w' => w'.cell? ⟨g, 2, none⟩ = some (.int .u32 s2)) 11 (by kernel_rfl) ?_ (fun hHeld => ?_)
                  · exact c1
                  refine' rl_take (i := 0) (v := _) rfl (by kernel_rfl) (by kernel_rfl) (by kernel_rfl) (by kernel_rfl) (fun _ _ _ h => h) (Or.inl ⟨by rfl, ?_⟩) (by assumption) ?_
                  rotate_left 1
                  · (intro w0 hSw; (try dsimp only at hSw); go_split_ands; go_simp; (try with_reducible rfl))
                  try simp only [Act.put, List.setIfInBounds_toArray, List.set_cons_zero, List.set_cons_succ, List.getElem_toArray, List.getElem_cons_zero, List.getElem_cons_succ]
                  refine' rl_take (i := 1) (v := _) rfl (by kernel_rfl) (by kernel_rfl) (by kernel_rfl) (by kernel_rfl) (fun _ _ _ h => h) (Or.inl ⟨by rfl, ?_⟩) (by assumption) ?_
                  rotate_left 1
                  · (intro w0 hSw; (try dsimp only at hSw); go_split_ands; go_simp; (try with_reducible rfl))
                  try simp only [Act.put, List.setIfInBounds_toArray, List.set_cons_zero, List.set_cons_succ, List.getElem_toArray, List.getElem_cons_zero, List.getElem_cons_succ]
                  refine' rl_take (i := 2) (v := _) rfl (by kernel_rfl) (by kernel_rfl) (by kernel_rfl) (by kernel_rfl) (fun _ _ _ h => h) (Or.inl ⟨by rfl, ?_⟩) (by assumption) ?_
                  rotate_left 1
                  · (intro w0 hSw; (try dsimp only at hSw); go_split_ands; go_simp; (try with_reducible rfl))
                  try simp only [Act.put, List.setIfInBounds_toArray, List.set_cons_zero, List.set_cons_succ, List.getElem_toArray, List.getElem_cons_zero, List.getElem_cons_succ]
                  refine' rl_take (i := 3) (v := _) rfl (by kernel_rfl) (by kernel_rfl) (by kernel_rfl) (by kernel_rfl) (fun _ _ _ h => h) (Or.inl ⟨by rfl, ?_⟩) (by assumption) ?_
                  rotate_left 1
                  · (intro w0 hSw; (try dsimp only at hSw); go_split_ands; go_simp; (try with_reducible rfl))
                  try simp only [Act.put, List.setIfInBounds_toArray, List.set_cons_zero, List.set_cons_succ, List.getElem_toArray, List.getElem_cons_zero, List.getElem_cons_succ]
                  refine' rl_take (i := 4) (v := _) rfl (by kernel_rfl) (by kernel_rfl) (by kernel_rfl) (by kernel_rfl) (fun _ _ _ h => h) (Or.inl ⟨by rfl, ?_⟩) (by assumption) ?_
                  rotate_left 1
                  · (intro w0 hSw; (try dsimp only at hSw); go_split_ands; go_simp; (try with_reducible rfl))
                  try simp only [Act.put, List.setIfInBounds_toArray, List.set_cons_zero, List.set_cons_succ, List.getElem_toArray, List.getElem_cons_zero, List.getElem_cons_succ]
                  refine' rl_take (i := 5) (v := _) rfl (by kernel_rfl) (by kernel_rfl) (by kernel_rfl) (by kernel_rfl) (fun _ _ _ h => h) (Or.inl ⟨by rfl, ?_⟩) (by assumption) ?_
                  rotate_left 1
                  · (intro w0 hSw; (try dsimp only at hSw); go_split_ands; go_simp; (try with_reducible rfl))
                  try simp only [Act.put, List.setIfInBounds_toArray, List.set_cons_zero, List.set_cons_succ, List.getElem_toArray, List.getElem_cons_zero, List.getElem_cons_succ]
                  refine' rl_take (i := 6) (v := _) rfl (by kernel_rfl) (by kernel_rfl) (by kernel_rfl) (by kernel_rfl) (fun _ _ _ h => h) (Or.inl ⟨by rfl, ?_⟩) (by assumption) ?_
                  rotate_left 1
                  · (intro w0 hSw; (try dsimp only at hSw); go_split_ands; go_simp; (try with_reducible rfl))
                  try simp only [Act.put, List.setIfInBounds_toArray, List.set_cons_zero, List.set_cons_succ, List.getElem_toArray, List.getElem_cons_zero, List.getElem_cons_succ]
                  refine' rl_take (i := 7) (v := _) rfl (by kernel_rfl) (by kernel_rfl) (by kernel_rfl) (by kernel_rfl) (fun _ _ _ h => h) (Or.inl ⟨by rfl, ?_⟩) (by assumption) ?_
                  rotate_left 1
                  · (intro w0 hSw; (try dsimp only at hSw); go_split_ands; go_simp; (try with_reducible rfl))
                  try simp only [Act.put, List.setIfInBounds_toArray, List.set_cons_zero, List.set_cons_succ, List.getElem_toArray, List.getElem_cons_zero, List.getElem_cons_succ]
                  refine rl_act (i := 8) (by kernel_rfl) rfl (fun K hK => ?_)
                  go_simp
                  refine hK.out _ _ ?_ (fun hHeld => ?_)
                  · exact hHeld
                  clear hK K
                  try simp only [Act.put, List.setIfInBounds_toArray, List.set_cons_zero, List.set_cons_succ, List.getElem_toArray, List.getElem_cons_zero, List.getElem_cons_succ]
                  refine rl_act (i := 9) (by kernel_rfl) rfl (fun K hK => ?_)
                  go_simp
                  refine hK.out _ _ ?_ (fun hHeld => ?_)
                  · exact hHeld
                  clear hK K
                  try simp only [Act.put, List.setIfInBounds_toArray, List.set_cons_zero, List.set_cons_succ, List.getElem_toArray, List.getElem_cons_zero, List.getElem_cons_succ]
                  refine' rl_take (i := 10) (v := _) rfl (by kernel_rfl) (by kernel_rfl) (by kernel_rfl) (by kernel_rfl) (fun _ _ _ h => h) (Or.inl ⟨by rfl, ?_⟩) (by assumption) ?_
                  rotate_left 1
                  · (intro w0 hSw; (try dsimp only at hSw); go_split_ands; go_simp; (try with_reducible rfl))
                  try simp only [Act.put, List.setIfInBounds_toArray, List.set_cons_zero, List.set_cons_succ, List.getElem_toArray, List.getElem_cons_zero, List.getElem_cons_succ]
                  refine rl_last (by kernel_rfl) (by kernel_rfl) rfl (fun K hK => ?_)
                  go_simp
                  refine hK.out _ _ ?_
                  clear hK K
                  try simp only [Act.put, List.setIfInBounds_toArray, List.set_cons_zero, List.set_cons_succ, List.getElem_toArray, List.getElem_cons_zero, List.getElem_cons_succ]
                  clear hHeld
                  go_wp2_with fail
                  go_roundw
                  case rel =>
                    (repeat apply Exists.intro)
                    refine ⟨⟨3, ?_, ?_, ?_, ?_⟩, rfl⟩
                    · omega
                    · go_num
                    · rw [HN'.out]
                      exact HN.out
                    · exact (HKX.out.setCell (p := ⟨g, 2, none⟩) (.inl (by simp)) _).drew
                  case measure => simp [intOf]
                | 3, _ =>
                  obtain ⟨N, hN⟩ : ∃ a, a = (s3 + r3) % 4294967296 := ⟨_, rfl⟩
                  have u1 : IntKind.u32.wrap ((s3 : Int) + (r3 : Int)) = (N : Int) := by rw [wrap_u32']; omega
                  have i1 : ∀ w, (Instr.index 122 (.agg #[.int .u32 r0, .int .u32 r1, .int .u32 r2, .int .u32 r3, .int .u32 r4, .int .u32 r5, .int .u32 r6, .int .u32 r7]) (.int .i64 ((3 : Nat) : Int))).run Tryd.prog w = .ok (.int .u32 r3) w := fun _ => by kernel_rfl
                  have HN := Lib.hid (add_cell (x := N) HH.out (j := 3) (by simp [addW]))
                  rw [hN] at HN
                  have HN' := Lib.hid hN
                  have c1 : wr.cell? ⟨g, 3, none⟩ = some (.int .u32 s3) := cell_sets_of' HH.out rfl
                  have f1 := frozen_of_row wr g 3 _ _ HH.out
                  clear hN
                  go_upto_region 24 with (first | (refine wl_index rfl 122 (.tmp 214) (.tmp 215) rfl ?_; refine ⟨_, _, i1 _, ?_⟩; try simp only [Act.put, List.setIfInBounds_toArray, List.set_cons_zero, List.set_cons_succ, List.getElem_toArray, List.getElem_cons_zero, List.getElem_cons_succ]))
                  refine rl_start (fun w' => w'.cell? ⟨g, 3, none⟩ = some (.int .u32 s3)) 11 (by kernel_rfl) ?_ (fun hHeld => ?_)
                  · exact c1
                  refine' rl_take (i := 0) (v := _) rfl (by kernel_rfl) (by kernel_rfl) (by kernel_rfl) (by kernel_rfl) (fun _ _ _ h => h) (Or.inl ⟨by rfl, ?_⟩) (by assumption) ?_
                  rotate_left 1
                  · (intro w0 hSw; (try dsimp only at hSw); go_split_ands; go_simp; (try with_reducible rfl))
                  try simp only [Act.put, List.setIfInBounds_toArray, List.set_cons_zero, List.set_cons_succ, List.getElem_toArray, List.getElem_cons_zero, List.getElem_cons_succ]
                  refine' rl_take (i := 1) (v := _) rfl (by kernel_rfl) (by kernel_rfl) (by kernel_rfl) (by kernel_rfl) (fun _ _ _ h => h) (Or.inl ⟨by rfl, ?_⟩) (by assumption) ?_
                  rotate_left 1
                  · (intro w0 hSw; (try dsimp only at hSw); go_split_ands; go_simp; (try with_reducible rfl))
                  try simp only [Act.put, List.setIfInBounds_toArray, List.set_cons_zero, List.set_cons_succ, List.getElem_toArray, List.getElem_cons_zero, List.getElem_cons_succ]
                  refine' rl_take (i := 2) (v := _) rfl (by kernel_rfl) (by kernel_rfl) (by kernel_rfl) (by kernel_rfl) (fun _ _ _ h => h) (Or.inl ⟨by rfl, ?_⟩) (by assumption) ?_
                  rotate_left 1
                  · (intro w0 hSw; (try dsimp only at hSw); go_split_ands; go_simp; (try with_reducible rfl))
                  try simp only [Act.put, List.setIfInBounds_toArray, List.set_cons_zero, List.set_cons_succ, List.getElem_toArray, List.getElem_cons_zero, List.getElem_cons_succ]
                  refine' rl_take (i := 3) (v := _) rfl (by kernel_rfl) (by kernel_rfl) (by kernel_rfl) (by kernel_rfl) (fun _ _ _ h => h) (Or.inl ⟨by rfl, ?_⟩) (by assumption) ?_
                  rotate_left 1
                  · (intro w0 hSw; (try dsimp only at hSw); go_split_ands; go_simp; (try with_reducible rfl))
                  try simp only [Act.put, List.setIfInBounds_toArray, List.set_cons_zero, List.set_cons_succ, List.getElem_toArray, List.getElem_cons_zero, List.getElem_cons_succ]
                  refine' rl_take (i := 4) (v := _) rfl (by kernel_rfl) (by kernel_rfl) (by kernel_rfl) (by kernel_rfl) (fun _ _ _ h => h) (Or.inl ⟨by rfl, ?_⟩) (by assumption) ?_
                  rotate_left 1
                  · (intro w0 hSw; (try dsimp only at hSw); go_split_ands; go_simp; (try with_reducible rfl))
                  try simp only [Act.put, List.setIfInBounds_toArray, List.set_cons_zero, List.set_cons_succ, List.getElem_toArray, List.getElem_cons_zero, List.getElem_cons_succ]
                  refine' rl_take (i := 5) (v := _) rfl (by kernel_rfl) (by kernel_rfl) (by kernel_rfl) (by kernel_rfl) (fun _ _ _ h => h) (Or.inl ⟨by rfl, ?_⟩) (by assumption) ?_
                  rotate_left 1
                  · (intro w0 hSw; (try dsimp only at hSw); go_split_ands; go_simp; (try with_reducible rfl))
                  try simp only [Act.put, List.setIfInBounds_toArray, List.set_cons_zero, List.set_cons_succ, List.getElem_toArray, List.getElem_cons_zero, List.getElem_cons_succ]
                  refine' rl_take (i := 6) (v := _) rfl (by kernel_rfl) (by kernel_rfl) (by kernel_rfl) (by kernel_rfl) (fun _ _ _ h => h) (Or.inl ⟨by rfl, ?_⟩) (by assumption) ?_
                  rotate_left 1
                  · (intro w0 hSw; (try dsimp only at hSw); go_split_ands; go_simp; (try with_reducible rfl))
                  try simp only [Act.put, List.setIfInBounds_toArray, List.set_cons_zero, List.set_cons_succ, List.getElem_toArray, List.getElem_cons_zero, List.getElem_cons_succ]
                  refine' rl_take (i := 7) (v := _) rfl (by kernel_rfl) (by kernel_rfl) (by kernel_rfl) (by kernel_rfl) (fun _ _ _ h => h) (Or.inl ⟨by rfl, ?_⟩) (by assumption) ?_
                  rotate_left 1
                  · (intro w0 hSw; (try dsimp only at hSw); go_split_ands; go_simp; (try with_reducible rfl))
                  try simp only [Act.put, List.setIfInBounds_toArray, List.set_cons_zero, List.set_cons_succ, List.getElem_toArray, List.getElem_cons_zero, List.getElem_cons_succ]
                  refine rl_act (i := 8) (by kernel_rfl) rfl (fun K hK => ?_)
                  go_simp
                  refine hK.out _ _ ?_ (fun hHeld => ?_)
                  · exact hHeld
                  clear hK K
                  try simp only [Act.put, List.setIfInBounds_toArray, List.set_cons_zero, List.set_cons_succ, List.getElem_toArray, List.getElem_cons_zero, List.getElem_cons_succ]
                  refine rl_act (i := 9) (by kernel_rfl) rfl (fun K hK => ?_)
                  go_simp
                  refine hK.out _ _ ?_ (fun hHeld => ?_)
                  · exact hHeld
                  clear hK K
                  try simp only [Act.put, List.setIfInBounds_toArray, List.set_cons_zero, List.set_cons_succ, List.getElem_toArray, List.getElem_cons_zero, List.getElem_cons_succ]
                  refine' rl_take (i := 10) (v := _) rfl (by kernel_rfl) (by kernel_rfl) (by kernel_rfl) (by kernel_rfl) (fun _ _ _ h => h) (Or.inl ⟨by rfl, ?_⟩) (by assumption) ?_
                  rotate_left 1
                  · (intro w0 hSw; (try dsimp only at hSw); go_split_ands; go_simp; (try with_reducible rfl))
                  try simp only [Act.put, List.setIfInBounds_toArray, List.set_cons_zero, List.set_cons_succ, List.getElem_toArray, List.getElem_cons_zero, List.getElem_cons_succ]
                  refine rl_last (by kernel_rfl) (by kernel_rfl) rfl (fun K hK => ?_)
                  go_simp
                  refine hK.out _ _ ?_
                  clear hK K
                  try simp only [Act.put, List.setIfInBounds_toArray, List.set_cons_zero, List.set_cons_succ, List.getElem_toArray, List.getElem_cons_zero, List.getElem_cons_succ]
                  clear hHeld
                  go_wp2_with fail
                  go_roundw
                  case rel =>
                    (repeat apply Exists.intro)
                    refine ⟨⟨4, ?_, ?_, ?_, ?_⟩, rfl⟩
                    · omega
                    · go_num
                    · rw [HN'.out]
                      exact HN.out
                    · exact (HKX.out.setCell (p := ⟨g, 3, none⟩) (.inl (by simp)) _).drew
                  case measure => simp [intOf]
                | 4, _ =>
                  obtain ⟨N, hN⟩ : ∃ a, a = (s4 + r4) % 4294967296 := ⟨_, rfl⟩
                  have u1 : IntKind.u32.wrap ((s4 : Int) + (r4 : Int)) = (N : Int) := by rw [wrap_u32']; omega
                  have i1 : ∀ w, (Instr.index 122 (.agg #[.int .u32 r0, .int .u32 r1, .int .u32 r2, .int .u32 r3, .int .u32 r4, .int .u32 r5, .int .u32 r6, .int .u32 r7]) (.int .i64 ((4 : Nat) : Int))).run Tryd.prog w = .ok (.int .u32 r4) w := fun _ => by kernel_rfl
                  have HN := Lib.hid (add_cell (x := N) HH.out (j := 4) (by simp [addW]))
                  rw [hN] at HN
                  have HN' := Lib.hid hN
                  have c1 : wr.cell? ⟨g, 4, none⟩ = some (.int .u32 s4) := cell_sets_of' HH.out rfl
                  have f1 := frozen_of_row wr g 4 _ _ HH.out
                  clear hN
                  go_upto_region 24 with (first | (refine wl_index rfl 122 (.tmp 214) (.tmp 215) rfl ?_; refine ⟨_, _, i1 _, ?_⟩; try simp only [Act.put, List.setIfInBounds_toArray, List.set_cons_zero, List.set_cons_succ, List.getElem_toArray, List.getElem_cons_zero, List.getElem_cons_succ]))
                  refine rl_start (fun w' => w'.cell? ⟨g, 4, none⟩ = some (.int .u32 s4)) 11 (by kernel_rfl) ?_ (fun hHeld => ?_)
                  · exact c1
                  refine' rl_take (i := 0) (v := _) rfl (by kernel_rfl) (by kernel_rfl) (by kernel_rfl) (by kernel_rfl) (fun _ _ _ h => h) (Or.inl ⟨by rfl, ?_⟩) (by assumption) ?_
                  rotate_left 1
                  · (intro w0 hSw; (try dsimp only at hSw); go_split_ands; go_simp; (try with_reducible rfl))
                  try simp only [Act.put, List.setIfInBounds_toArray, List.set_cons_zero, List.set_cons_succ, List.getElem_toArray, List.getElem_cons_zero, List.getElem_cons_succ]
                  refine' rl_take (i := 1) (v := _) rfl (by kernel_rfl) (by kernel_rfl) (by kernel_rfl) (by kernel_rfl) (fun _ _ _ h => h) (Or.inl ⟨by rfl, ?_⟩) (by assumption) ?_
                  rotate_left 1
                  · (intro w0 hSw; (try dsimp only at hSw); go_split_ands; go_simp; (try with_reducible rfl))
                  try simp only [Act.put, List.setIfInBounds_toArray, List.set_cons_zero, List.set_cons_succ, List.getElem_toArray, List.getElem_cons_zero, List.getElem_cons_succ]
                  refine' rl_take (i := 2) (v := _) rfl (by kernel_rfl) (by kernel_rfl) (by kernel_rfl) (by kernel_rfl) (fun _ _ _ h => h) (Or.inl ⟨by rfl, ?_⟩) (by assumption) ?_
                  rotate_left 1
                  · (intro w0 hSw; (try dsimp only at hSw); go_split_ands; go_simp; (try with_reducible rfl))
                  try simp only [Act.put, List.setIfInBounds_toArray, List.set_cons_zero, List.set_cons_succ, List.getElem_toArray, List.getElem_cons_zero, List.getElem_cons_succ]
                  refine' rl_take (i := 3) (v := _) rfl (by kernel_rfl) (by kernel_rfl) (by kernel_rfl) (by kernel_rfl) (fun _ _ _ h => h) (Or.inl ⟨by rfl, ?_⟩) (by assumption) ?_
                  rotate_left 1
                  · (intro w0 hSw; (try dsimp only at hSw); go_split_ands; go_simp; (try with_reducible rfl))
                  try simp only [Act.put, List.setIfInBounds_toArray, List.set_cons_zero, List.set_cons_succ, List.getElem_toArray, List.getElem_cons_zero, List.getElem_cons_succ]
                  refine' rl_take (i := 4) (v := _) rfl (by kernel_rfl) (by kernel_rfl) (by kernel_rfl) (by kernel_rfl) (fun _ _ _ h => h) (Or.inl ⟨by rfl, ?_⟩) (by assumption) ?_
                  rotate_left 1
                  · (intro w0 hSw; (try dsimp only at hSw); go_split_ands; go_simp; (try with_reducible rfl))
                  try simp only [Act.put, List.setIfInBounds_toArray, List.set_cons_zero, List.set_cons_succ, List.getElem_toArray, List.getElem_cons_zero, List.getElem_cons_succ]
                  refine' rl_take (i := 5) (v := _) rfl (by kernel_rfl) (by kernel_rfl) (by kernel_rfl) (by kernel_rfl) (fun _ _ _ h => h) (Or.inl ⟨by rfl, ?_⟩) (by assumption) ?_
                  rotate_left 1
                  · (intro w0 hSw; (try dsimp only at hSw); go_split_ands; go_simp; (try with_reducible rfl))
                  try simp only [Act.put, List.setIfInBounds_toArray, List.set_cons_zero, List.set_cons_succ, List.getElem_toArray, List.getElem_cons_zero, List.getElem_cons_succ]
                  refine' rl_take (i := 6) (v := _) rfl (by kernel_rfl) (by kernel_rfl) (by kernel_rfl) (by kernel_rfl) (fun _ _ _ h => h) (Or.inl ⟨by rfl, ?_⟩) (by assumption) ?_
                  rotate_left 1
                  · (intro w0 hSw; (try dsimp only at hSw); go_split_ands; go_simp; (try with_reducible rfl))
                  try simp only [Act.put, List.setIfInBounds_toArray, List.set_cons_zero, List.set_cons_succ, List.getElem_toArray, List.getElem_cons_zero, List.getElem_cons_succ]
                  refine' rl_take (i := 7) (v := _) rfl (by kernel_rfl) (by kernel_rfl) (by kernel_rfl) (by kernel_rfl) (fun _ _ _ h => h) (Or.inl ⟨by rfl, ?_⟩) (by assumption) ?_
                  rotate_left 1
                  · (intro w0 hSw; (try dsimp only at hSw); go_split_ands; go_simp; (try with_reducible rfl))
                  try simp only [Act.put, List.setIfInBounds_toArray, List.set_cons_zero, List.set_cons_succ, List.getElem_toArray, List.getElem_cons_zero, List.getElem_cons_succ]
                  refine rl_act (i := 8) (by kernel_rfl) rfl (fun K hK => ?_)
                  go_simp
                  refine hK.out _ _ ?_ (fun hHeld => ?_)
                  · exact hHeld
                  clear hK K
                  try simp only [Act.put, List.setIfInBounds_toArray, List.set_cons_zero, List.set_cons_succ, List.getElem_toArray, List.getElem_cons_zero, List.getElem_cons_succ]
                  refine rl_act (i := 9) (by kernel_rfl) rfl (fun K hK => ?_)
                  go_simp
                  refine hK.out _ _ ?_ (fun hHeld => ?_)
                  · exact hHeld
                  clear hK K
                  try simp only [Act.put, List.setIfInBounds_toArray, List.set_cons_zero, List.set_cons_succ, List.getElem_toArray, List.getElem_cons_zero, List.getElem_cons_succ]
                  refine' rl_take (i := 10) (v := _) rfl (by kernel_rfl) (by kernel_rfl) (by kernel_rfl) (by kernel_rfl) (fun _ _ _ h => h) (Or.inl ⟨by rfl, ?_⟩) (by assumption) ?_
                  rotate_left 1
                  · (intro w0 hSw; (try dsimp only at hSw); go_split_ands; go_simp; (try with_reducible rfl))
                  try simp only [Act.put, List.setIfInBounds_toArray, List.set_cons_zero, List.set_cons_succ, List.getElem_toArray, List.getElem_cons_zero, List.getElem_cons_succ]
                  refine rl_last (by kernel_rfl) (by kernel_rfl) rfl (fun K hK => ?_)
                  go_simp
                  refine hK.out _ _ ?_
                  clear hK K
                  try simp only [Act.put, List.setIfInBounds_toArray, List.set_cons_zero, List.set_cons_succ, List.getElem_toArray, List.getElem_cons_zero, List.getElem_cons_succ]
                  clear hHeld
                  go_wp2_with fail
                  go_roundw
                  case rel =>
                    (repeat apply Exists.intro)
                    refine ⟨⟨5, ?_, ?_, ?_, ?_⟩, rfl⟩
                    · omega
                    · go_num
                    · rw [HN'.out]
                      exact HN.out
                    · exact (HKX.out.setCell (p := ⟨g, 4, none⟩) (.inl (by simp)) _).drew
                  case measure => simp [intOf]
                | 5, _ =>
                  obtain ⟨N, hN⟩ : ∃ a, a = (s5 + r5) % 4294967296 := ⟨_, rfl⟩
                  have u1 : IntKind.u32.wrap ((s5 : Int) + (r5 : Int)) = (N : Int) := by rw [wrap_u32']; omega
                  have i1 : ∀ w, (Instr.index 122 (.agg #[.int .u32 r0, .int .u32 r1, .int .u32 r2, .int .u32 r3, .int .u32 r4, .int .u32 r5, .int .u32 r6, .int .u32 r7]) (.int .i64 ((5 : Nat) : Int))).run Tryd.prog w = .ok (.int .u32 r5) w := fun _ => by kernel_rfl
                  have HN := Lib.hid (add_cell (x := N) HH.out (j := 5) (by simp [addW]))
                  rw [hN] at HN
                  have HN' := Lib.hid hN
                  have c1 : wr.cell? ⟨g, 5, none⟩ = some (.int .u32 s5) := cell_sets_of' HH.out rfl
                  have f1 := frozen_of_row wr g 5 _ _ HH.out
                  clear hN
                  go_upto_region 24 with (first | (refine wl_index rfl 122 (.tmp 214) (.tmp 215) rfl ?_; refine ⟨_, _, i1 _, ?_⟩; try simp only [Act.put, List.setIfInBounds_toArray, List.set_cons_zero, List.set_cons_succ, List.getElem_toArray, List.getElem_cons_zero, List.getElem_cons_succ]))
                  refine rl_start (fun w' => w'.cell? ⟨g, 5, none⟩ = some (.int .u32 s5)) 11 (by kernel_rfl) ?_ (fun hHeld => ?_)
                  · exact c1
                  refine' rl_take (i := 0) (v := _) rfl (by kernel_rfl) (by kernel_rfl) (by kernel_rfl) (by kernel_rfl) (fun _ _ _ h => h) (Or.inl ⟨by rfl, ?_⟩) (by assumption) ?_
                  rotate_left 1
                  · (intro w0 hSw; (try dsimp only at hSw); go_split_ands; go_simp; (try with_reducible rfl))
                  try simp only [Act.put, List.setIfInBounds_toArray, List.set_cons_zero, List.set_cons_succ, List.getElem_toArray, List.getElem_cons_zero, List.getElem_cons_succ]
                  refine' rl_take (i := 1) (v := _) rfl (by kernel_rfl) (by kernel_rfl) (by kernel_rfl) (by kernel_rfl) (fun _ _ _ h => h) (Or.inl ⟨by rfl, ?_⟩) (by assumption) ?_
                  rotate_left 1
                  · (intro w0 hSw; (try dsimp only at hSw); go_split_ands; go_simp; (try with_reducible rfl))
                  try simp only [Act.put, List.setIfInBounds_toArray, List.set_cons_zero, List.set_cons_succ, List.getElem_toArray, List.getElem_cons_zero, List.getElem_cons_succ]
                  refine' rl_take (i := 2) (v := _) rfl (by kernel_rfl) (by kernel_rfl) (by kernel_rfl) (by kernel_rfl) (fun _ _ _ h => h) (Or.inl ⟨by rfl, ?_⟩) (by assumption) ?_
                  rotate_left 1
                  · (intro w0 hSw; (try dsimp only at hSw); go_split_ands; go_simp; (try with_reducible rfl))
                  try simp only [Act.put, List.setIfInBounds_toArray, List.set_cons_zero, List.set_cons_succ, List.getElem_toArray, List.getElem_cons_zero, List.getElem_cons_succ]
                  refine' rl_take (i := 3) (v := _) rfl (by kernel_rfl) (by kernel_rfl) (by kernel_rfl) (by kernel_rfl) (fun _ _ _ h => h) (Or.inl ⟨by rfl, ?_⟩) (by assumption) ?_
                  rotate_left 1
                  · (intro w0 hSw; (try dsimp only at hSw); go_split_ands; go_simp; (try with_reducible rfl))
                  try simp only [Act.put, List.setIfInBounds_toArray, List.set_cons_zero, List.set_cons_succ, List.getElem_toArray, List.getElem_cons_zero, List.getElem_cons_succ]
                  refine' rl_take (i := 4) (v := _) rfl (by kernel_rfl) (by kernel_rfl) (by kernel_rfl) (by kernel_rfl) (fun _ _ _ h => h) (Or.inl ⟨by rfl, ?_⟩) (by assumption) ?_
                  rotate_left 1
                  · (intro w0 hSw; (try dsimp only at hSw); go_split_ands; go_simp; (try with_reducible rfl))
                  try simp only [Act.put, List.setIfInBounds_toArray, List.set_cons_zero, List.set_cons_succ, List.getElem_toArray, List.getElem_cons_zero, List.getElem_cons_succ]
                  refine' rl_take (i := 5) (v := _) rfl (by kernel_rfl) (by kernel_rfl) (by kernel_rfl) (by kernel_rfl) (fun _ _ _ h => h) (Or.inl ⟨by rfl, ?_⟩) (by assumption) ?_
                  rotate_left 1
                  · (intro w0 hSw; (try dsimp only at hSw); go_split_ands; go_simp; (try with_reducible rfl))
                  try simp only [Act.put, List.setIfInBounds_toArray, List.set_cons_zero, List.set_cons_succ, List.getElem_toArray, List.getElem_cons_zero, List.getElem_cons_succ]
                  refine' rl_take (i := 6) (v := _) rfl (by kernel_rfl) (by kernel_rfl) (by kernel_rfl) (by kernel_rfl) (fun _ _ _ h => h) (Or.inl ⟨by rfl, ?_⟩) (by assumption) ?_
                  rotate_left 1
                  · (intro w0 hSw; (try dsimp only at hSw); go_split_ands; go_simp; (try with_reducible rfl))
                  try simp only [Act.put, List.setIfInBounds_toArray, List.set_cons_zero, List.set_cons_succ, List.getElem_toArray, List.getElem_cons_zero, List.getElem_cons_succ]
                  refine' rl_take (i := 7) (v := _) rfl (by kernel_rfl) (by kernel_rfl) (by kernel_rfl) (by kernel_rfl) (fun _ _ _ h => h) (Or.inl ⟨by rfl, ?_⟩) (by assumption) ?_
                  rotate_left 1
                  · (intro w0 hSw; (try dsimp only at hSw); go_split_ands; go_simp; (try with_reducible rfl))
                  try simp only [Act.put, List.setIfInBounds_toArray, List.set_cons_zero, List.set_cons_succ, List.getElem_toArray, List.getElem_cons_zero, List.getElem_cons_succ]
                  refine rl_act (i := 8) (by kernel_rfl) rfl (fun K hK => ?_)
                  go_simp
                  refine hK.out _ _ ?_ (fun hHeld => ?_)
                  · exact hHeld
                  clear hK K
                  try simp only [Act.put, List.setIfInBounds_toArray, List.set_cons_zero, List.set_cons_succ, List.getElem_toArray, List.getElem_cons_zero, List.getElem_cons_succ]
                  refine rl_act (i := 9) (by kernel_rfl) rfl (fun K hK => ?_)
                  go_simp
                  refine hK.out _ _ ?_ (fun hHeld => ?_)
                  · exact hHeld
                  clear hK K
                  try simp only [Act.put, List.setIfInBounds_toArray, List.set_cons_zero, List.set_cons_succ, List.getElem_toArray, List.getElem_cons_zero, List.getElem_cons_succ]
                  refine' rl_take (i := 10) (v := _) rfl (by kernel_rfl) (by kernel_rfl) (by kernel_rfl) (by kernel_rfl) (fun _ _ _ h => h) (Or.inl ⟨by rfl, ?_⟩) (by assumption) ?_
                  rotate_left 1
                  · (intro w0 hSw; (try dsimp only at hSw); go_split_ands; go_simp; (try with_reducible rfl))
                  try simp only [Act.put, List.setIfInBounds_toArray, List.set_cons_zero, List.set_cons_succ, List.getElem_toArray, List.getElem_cons_zero, List.getElem_cons_succ]
                  refine rl_last (by kernel_rfl) (by kernel_rfl) rfl (fun K hK => ?_)
                  go_simp
                  refine hK.out _ _ ?_
                  clear hK K
                  try simp only [Act.put, List.setIfInBounds_toArray, List.set_cons_zero, List.set_cons_succ, List.getElem_toArray, List.getElem_cons_zero, List.getElem_cons_succ]
                  clear hHeld
                  go_wp2_with fail
                  go_roundw
                  case rel =>
                    (repeat apply Exists.intro)
                    refine ⟨⟨6, ?_, ?_, ?_, ?_⟩, rfl⟩
                    · omega
                    · go_num
                    · rw [HN'.out]
                      exact HN.out
                    · exact (HKX.out.setCell (p := ⟨g, 5, none⟩) (.inl (by simp)) _).drew
                  case measure => simp [intOf]
                | 6, _ =>
                  obtain ⟨N, hN⟩ : ∃ a, a = (s6 + r6) % 4294967296 := ⟨_, rfl⟩
                  have u1 : IntKind.u32.wrap ((s6 : Int) + (r6 : Int)) = (N : Int) := by rw [wrap_u32']; omega
                  have i1 : ∀ w, (Instr.index 122 (.agg #[.int .u32 r0, .int .u32 r1, .int .u32 r2, .int .u32 r3, .int .u32 r4, .int .u32 r5, .int .u32 r6, .int .u32 r7]) (.int .i64 ((6 : Nat) : Int))).run Tryd.prog w = .ok (.int .u32 r6) w := fun _ => by kernel_rfl
                  have HN := Lib.hid (add_cell (x := N) HH.out (j := 6) (by simp [addW]))
                  rw [hN] at HN
                  have HN' := Lib.hid hN
                  have c1 : wr.cell? ⟨g, 6, none⟩ = some (.int .u32 s6) := cell_sets_of' HH.out rfl
                  have f1 := frozen_of_row wr g 6 _ _ HH.out
                  clear hN
                  go_upto_region 24 with (first | (refine wl_index rfl 122 (.tmp 214) (.tmp 215) rfl ?_; refine ⟨_, _, i1 _, ?_⟩; try simp only [Act.put, List.setIfInBounds_toArray, List.set_cons_zero, List.set_cons_succ, List.getElem_toArray, List.getElem_cons_zero, List.getElem_cons_succ]))
                  refine rl_start (fun w' => w'.cell? ⟨g, 6, none⟩ = some (.int .u32 s6)) 11 (by kernel_rfl) ?_ (fun hHeld => ?_)
                  · exact c1
                  refine' rl_take (i := 0) (v := _) rfl (by kernel_rfl) (by kernel_rfl) (by kernel_rfl) (by kernel_rfl) (fun _ _ _ h => h) (Or.inl ⟨by rfl, ?_⟩) (by assumption) ?_
                  rotate_left 1
                  · (intro w0 hSw; (try dsimp only at hSw); go_split_ands; go_simp; (try with_reducible rfl))
                  try simp only [Act.put, List.setIfInBounds_toArray, List.set_cons_zero, List.set_cons_succ, List.getElem_toArray, List.getElem_cons_zero, List.getElem_cons_succ]
                  refine' rl_take (i := 1) (v := _) rfl (by kernel_rfl) (by kernel_rfl) (by kernel_rfl) (by kernel_rfl) (fun _ _ _ h => h) (Or.inl ⟨by rfl, ?_⟩) (by assumption) ?_
                  rotate_left 1
                  · (intro w0 hSw; (try dsimp only at hSw); go_split_ands; go_simp; (try with_reducible rfl))
                  try simp only [Act.put, List.setIfInBounds_toArray, List.set_cons_zero, List.set_cons_succ, List.getElem_toArray, List.getElem_cons_zero, List.getElem_cons_succ]
                  refine' rl_take (i := 2) (v := _) rfl (by kernel_rfl) (by kernel_rfl) (by kernel_rfl) (by kernel_rfl) (fun _ _ _ h => h) (Or.inl ⟨by rfl, ?_⟩) (by assumption) ?_
                  rotate_left 1
                  · (intro w0 hSw; (try dsimp only at hSw); go_split_ands; go_simp; (try with_reducible rfl))
                  try simp only [Act.put, List.setIfInBounds_toArray, List.set_cons_zero, List.set_cons_succ, List.getElem_toArray, List.getElem_cons_zero, List.getElem_cons_succ]
                  refine' rl_take (i := 3) (v := _) rfl (by kernel_rfl) (by kernel_rfl) (by kernel_rfl) (by kernel_rfl) (fun _ _ _ h => h) (Or.inl ⟨by rfl, ?_⟩) (by assumption) ?_
                  rotate_left 1
                  · (intro w0 hSw; (try dsimp only at hSw); go_split_ands; go_simp; (try with_reducible rfl))
                  try simp only [Act.put, List.setIfInBounds_toArray, List.set_cons_zero, List.set_cons_succ, List.getElem_toArray, List.getElem_cons_zero, List.getElem_cons_succ]
                  refine' rl_take (i := 4) (v := _) rfl (by kernel_rfl) (by kernel_rfl) (by kernel_rfl) (by kernel_rfl) (fun _ _ _ h => h) (Or.inl ⟨by rfl, ?_⟩) (by assumption) ?_
                  rotate_left 1
                  · (intro w0 hSw; (try dsimp only at hSw); go_split_ands; go_simp; (try with_reducible rfl))
                  try simp only [Act.put, List.setIfInBounds_toArray, List.set_cons_zero, List.set_cons_succ, List.getElem_toArray, List.getElem_cons_zero, List.getElem_cons_succ]
                  refine' rl_take (i := 5) (v := _) rfl (by kernel_rfl) (by kernel_rfl) (by kernel_rfl) (by kernel_rfl) (fun _ _ _ h => h) (Or.inl ⟨by rfl, ?_⟩) (by assumption) ?_
                  rotate_left 1
                  · (intro w0 hSw; (try dsimp only at hSw); go_split_ands; go_simp; (try with_reducible rfl))
                  try simp only [Act.put, List.setIfInBounds_toArray, List.set_cons_zero, List.set_cons_succ, List.getElem_toArray, List.getElem_cons_zero, List.getElem_cons_succ]
                  refine' rl_take (i := 6) (v := _) rfl (by kernel_rfl) (by kernel_rfl) (by kernel_rfl) (by kernel_rfl) (fun _ _ _ h => h) (Or.inl ⟨by rfl, ?_⟩) (by assumption) ?_
                  rotate_left 1
                  · (intro w0 hSw; (try dsimp only at hSw); go_split_ands; go_simp; (try with_reducible rfl))
                  try simp only [Act.put, List.setIfInBounds_toArray, List.set_cons_zero, List.set_cons_succ, List.getElem_toArray, List.getElem_cons_zero, List.getElem_cons_succ]
                  refine' rl_take (i := 7) (v := _) rfl (by kernel_rfl) (by kernel_rfl) (by kernel_rfl) (by kernel_rfl) (fun _ _ _ h => h) (Or.inl ⟨by rfl, ?_⟩) (by assumption) ?_
                  rotate_left 1
                  · (intro w0 hSw; (try dsimp only at hSw); go_split_ands; go_simp; (try with_reducible rfl))
                  try simp only [Act.put, List.setIfInBounds_toArray, List.set_cons_zero, List.set_cons_succ, List.getElem_toArray, List.getElem_cons_zero, List.getElem_cons_succ]
                  refine rl_act (i := 8) (by kernel_rfl) rfl (fun K hK => ?_)
                  go_simp
                  refine hK.out _ _ ?_ (fun hHeld => ?_)
                  · exact hHeld
                  clear hK K
                  try simp only [Act.put, List.setIfInBounds_toArray, List.set_cons_zero, List.set_cons_succ, List.getElem_toArray, List.getElem_cons_zero, List.getElem_cons_succ]
                  refine rl_act (i := 9) (by kernel_rfl) rfl (fun K hK => ?_)
                  go_simp
                  refine hK.out _ _ ?_ (fun hHeld => ?_)
                  · exact hHeld
                  clear hK K
                  try simp only [Act.put, List.setIfInBounds_toArray, List.set_cons_zero, List.set_cons_succ, List.getElem_toArray, List.getElem_cons_zero, List.getElem_cons_succ]
                  refine' rl_take (i := 10) (v := _) rfl (by kernel_rfl) (by kernel_rfl) (by kernel_rfl) (by kernel_rfl) (fun _ _ _ h => h) (Or.inl ⟨by rfl, ?_⟩) (by assumption) ?_
                  rotate_left 1
                  · (intro w0 hSw; (try dsimp only at hSw); go_split_ands; go_simp; (try with_reducible rfl))
                  try simp only [Act.put, List.setIfInBounds_toArray, List.set_cons_zero, List.set_cons_succ, List.getElem_toArray, List.getElem_cons_zero, List.getElem_cons_succ]
                  refine rl_last (by kernel_rfl) (by kernel_rfl) rfl (fun K hK => ?_)
                  go_simp
                  refine hK.out _ _ ?_
                  clear hK K
                  try simp only [Act.put, List.setIfInBounds_toArray, List.set_cons_zero, List.set_cons_succ, List.getElem_toArray, List.getElem_cons_zero, List.getElem_cons_succ]
                  clear hHeld
                  go_wp2_with fail
                  go_roundw
                  case rel =>
                    (repeat apply Exists.intro)
                    refine ⟨⟨7, ?_, ?_, ?_, ?_⟩, rfl⟩
                    · omega
                    · go_num
                    · rw [HN'.out]
                      exact HN.out
                    · exact (HKX.out.setCell (p := ⟨g, 6, none⟩) (.inl (by simp)) _).drew
                  case measure => simp [intOf]
                | 7, _ =>
                  obtain ⟨N, hN⟩ : ∃ a, a = (s7 + r7) % 4294967296 := ⟨_, rfl⟩
                  have u1 : IntKind.u32.wrap ((s7 : Int) + (r7 : Int)) = (N : Int) := by rw [wrap_u32']; omega
                  have i1 : ∀ w, (Instr.index 122 (.agg #[.int .u32 r0, .int .u32 r1, .int .u32 r2, .int .u32 r3, .int .u32 r4, .int .u32 r5, .int .u32 r6, .int .u32 r7]) (.int .i64 ((7 : Nat) : Int))).run Tryd.prog w = .ok (.int .u32 r7) w := fun _ => by kernel_rfl
                  have HN := Lib.hid (add_cell (x := N) HH.out (j := 7) (by simp [addW]))
                  rw [hN] at HN
                  have HN' := Lib.hid hN
                  have c1 : wr.cell? ⟨g, 7, none⟩ = some (.int .u32 s7) := cell_sets_of' HH.out rfl
                  have f1 := frozen_of_row wr g 7 _ _ HH.out
                  clear hN
                  go_upto_region 24 with (first | (refine wl_index rfl 122 (.tmp 214) (.tmp 215) rfl ?_; refine ⟨_, _, i1 _, ?_⟩; try simp only [Act.put, List.setIfInBounds_toArray, List.set_cons_zero, List.set_cons_succ, List.getElem_toArray, List.getElem_cons_zero, List.getElem_cons_succ]))
                  refine rl_start (fun w' => w'.cell? ⟨g, 7, none⟩ = some (.int .u32 s7)) 11 (by kernel_rfl) ?_ (fun hHeld => ?_)
                  · exact c1
                  refine' rl_take (i := 0) (v := _) rfl (by kernel_rfl) (by kernel_rfl) (by kernel_rfl) (by kernel_rfl) (fun _ _ _ h => h) (Or.inl ⟨by rfl, ?_⟩) (by assumption) ?_
                  rotate_left 1
                  · (intro w0 hSw; (try dsimp only at hSw); go_split_ands; go_simp; (try with_reducible rfl))
                  try simp only [Act.put, List.setIfInBounds_toArray, List.set_cons_zero, List.set_cons_succ, List.getElem_toArray, List.getElem_cons_zero, List.getElem_cons_succ]
                  refine' rl_take (i := 1) (v := _) rfl (by kernel_rfl) (by kernel_rfl) (by kernel_rfl) (by kernel_rfl) (fun _ _ _ h => h) (Or.inl ⟨by rfl, ?_⟩) (by assumption) ?_
                  rotate_left 1
                  · (intro w0 hSw; (try dsimp only at hSw); go_split_ands; go_simp; (try with_reducible rfl))
                  try simp only [Act.put, List.setIfInBounds_toArray, List.set_cons_zero, List.set_cons_succ, List.getElem_toArray, List.getElem_cons_zero, List.getElem_cons_succ]
                  refine' rl_take (i := 2) (v := _) rfl (by kernel_rfl) (by kernel_rfl) (by kernel_rfl) (by kernel_rfl) (fun _ _ _ h => h) (Or.inl ⟨by rfl, ?_⟩) (by assumption) ?_
                  rotate_left 1
                  · (intro w0 hSw; (try dsimp only at hSw); go_split_ands; go_simp; (try with_reducible rfl))
                  try simp only [Act.put, List.setIfInBounds_toArray, List.set_cons_zero, List.set_cons_succ, List.getElem_toArray, List.getElem_cons_zero, List.getElem_cons_succ]
                  refine' rl_take (i := 3) (v := _) rfl (by kernel_rfl) (by kernel_rfl) (by kernel_rfl) (by kernel_rfl) (fun _ _ _ h => h) (Or.inl ⟨by rfl, ?_⟩) (by assumption) ?_
                  rotate_left 1
                  · (intro w0 hSw; (try dsimp only at hSw); go_split_ands; go_simp; (try with_reducible rfl))
                  try simp only [Act.put, List.setIfInBounds_toArray, List.set_cons_zero, List.set_cons_succ, List.getElem_toArray, List.getElem_cons_zero, List.getElem_cons_succ]
                  refine' rl_take (i := 4) (v := _) rfl (by kernel_rfl) (by kernel_rfl) (by kernel_rfl) (by kernel_rfl) (fun _ _ _ h => h) (Or.inl ⟨by rfl, ?_⟩) (by assumption) ?_
                  rotate_left 1
                  · (intro w0 hSw; (try dsimp only at hSw); go_split_ands; go_simp; (try with_reducible rfl))
                  try simp only [Act.put, List.setIfInBounds_toArray, List.set_cons_zero, List.set_cons_succ, List.getElem_toArray, List.getElem_cons_zero, List.getElem_cons_succ]
                  refine' rl_take (i := 5) (v := _) rfl (by kernel_rfl) (by kernel_rfl) (by kernel_rfl) (by kernel_rfl) (fun _ _ _ h => h) (Or.inl ⟨by rfl, ?_⟩) (by assumption) ?_
                  rotate_left 1
                  · (intro w0 hSw; (try dsimp only at hSw); go_split_ands; go_simp; (try with_reducible rfl))
                  try simp only [Act.put, List.setIfInBounds_toArray, List.set_cons_zero, List.set_cons_succ, List.getElem_toArray, List.getElem_cons_zero, List.getElem_cons_succ]
                  refine' rl_take (i := 6) (v := _) rfl (by kernel_rfl) (by kernel_rfl) (by kernel_rfl) (by kernel_rfl) (fun _ _ _ h => h) (Or.inl ⟨by rfl, ?_⟩) (by assumption) ?_
                  rotate_left 1
                  · (intro w0 hSw; (try dsimp only at hSw); go_split_ands; go_simp; (try with_reducible rfl))
                  try simp only [Act.put, List.setIfInBounds_toArray, List.set_cons_zero, List.set_cons_succ, List.getElem_toArray, List.getElem_cons_zero, List.getElem_cons_succ]
                  refine' rl_take (i := 7) (v := _) rfl (by kernel_rfl) (by kernel_rfl) (by kernel_rfl) (by kernel_rfl) (fun _ _ _ h => h) (Or.inl ⟨by rfl, ?_⟩) (by assumption) ?_
                  rotate_left 1
                  · (intro w0 hSw; (try dsimp only at hSw); go_split_ands; go_simp; (try with_reducible rfl))
                  try simp only [Act.put, List.setIfInBounds_toArray, List.set_cons_zero, List.set_cons_succ, List.getElem_toArray, List.getElem_cons_zero, List.getElem_cons_succ]
                  refine rl_act (i := 8) (by kernel_rfl) rfl (fun K hK => ?_)
                  go_simp
                  refine hK.out _ _ ?_ (fun hHeld => ?_)
                  · exact hHeld
                  clear hK K
                  try simp only [Act.put, List.setIfInBounds_toArray, List.set_cons_zero, List.set_cons_succ, List.getElem_toArray, List.getElem_cons_zero, List.getElem_cons_succ]
                  refine rl_act (i := 9) (by kernel_rfl) rfl (fun K hK => ?_)
                  go_simp
                  refine hK.out _ _ ?_ (fun hHeld => ?_)
                  · exact hHeld
                  clear hK K
                  try simp only [Act.put, List.setIfInBounds_toArray, List.set_cons_zero, List.set_cons_succ, List.getElem_toArray, List.getElem_cons_zero, List.getElem_cons_succ]
                  refine' rl_take (i := 10) (v := _) rfl (by kernel_rfl) (by kernel_rfl) (by kernel_rfl) (by kernel_rfl) (fun _ _ _ h => h) (Or.inl ⟨by rfl, ?_⟩) (by assumption) ?_
                  rotate_left 1
                  · (intro w0 hSw; (try dsimp only at hSw); go_split_ands; go_simp; (try with_reducible rfl))
                  try simp only [Act.put, List.setIfInBounds_toArray, List.set_cons_zero, List.set_cons_succ, List.getElem_toArray, List.getElem_cons_zero, List.getElem_cons_succ]
                  refine rl_last (by kernel_rfl) (by kernel_rfl) rfl (fun K hK => ?_)
                  go_simp
                  refine hK.out _ _ ?_
                  clear hK K
                  try simp only [Act.put, List.setIfInBounds_toArray, List.set_cons_zero, List.set_cons_succ, List.getElem_toArray, List.getElem_cons_zero, List.getElem_cons_succ]
                  clear hHeld
                  go_wp2_with fail
                  go_roundw
                  case rel =>
                    (repeat apply Exists.intro)
                    refine ⟨⟨8, ?_, ?_, ?_, ?_⟩, rfl⟩
                    · omega
                    · go_num
                    · rw [HN'.out]
                      exact HN.out
                    · exact (HKX.out.setCell (p := ⟨g, 7, none⟩) (.inl (by simp)) _).drew
                  case measure => simp [intOf]
                | 8, _ =>
                  go_wp2_with fail
                  refine Go.Great.bodyPost_end0 rfl rfl ⟨rfl, ?_, ?_⟩
                  · rw [HFIN.out]
                    exact HH.out
                  · have h1 : Keeps [g] w wz := ((HK1.out.trans (G := [gw]) HKW.out (fun j hj => .inr (by simp at hj; subst hj; exact HGL.out.2)))).mono (by simp)
                    exact h1.trans (G := [g]) HKX.out (fun j hj => .inl hj)
end Go.Proofs.YtojlojdkhegbkaaDoor

/-
  Package frame: place, kindOf, valid.
-/
namespace Go.Proofs.YtojlojdkhegbkaaDoor
set_option linter.unusedVariables false
set_option linter.unusedSimpArgs false
open Go.RowKit

/-- A superblock as a value. -/
def supV (s : Sup) : Value := .agg #[.int .i64 s.width, .int .i64 s.gen, .int .i64 s.mark, .int .i64 s.head, .int .i64 s.pages]
set_option maxRecDepth 100000 in
set_option maxHeartbeats 2000000 in
theorem valid_any {w : World} (s : Sup) :
    Calls Tryd.prog 74 #[supV s] w fun e w' => e = .returned (.bool s.valid) ∧ Keeps [] w w' := by
  obtain ⟨W, G, M, H, P⟩ := s
  obtain ⟨b, hb⟩ : ∃ b, b = (⟨W, G, M, H, P⟩ : Sup).valid := ⟨_, rfl⟩
  rw [← hb]
  unfold supV
  unfold Sup.valid at hb
  dsimp only at hb ⊢
  have HB := Lib.hid hb
  clear hb
  obtain ⟨w1, hw1⟩ : ∃ w1, w1 = w.alloc (.cells #[.int .i64 W, .int .i64 G, .int .i64 M, .int .i64 H, .int .i64 P] 47 (0, 0)) := ⟨_, rfl⟩
  have hk1 : Keeps [] w w1 := by rw [hw1]; exact (Keeps.refl _ _).alloc _
  have hbk : w1.heap[w.heap.size]? = some (.cells #[.int .i64 W, .int .i64 G, .int .i64 M, .int .i64 H, .int .i64 P] 47 (0, 0)) := by rw [hw1]; exact heap_new_at rfl
  have HK := Lib.hid hk1
  have HW := Lib.hid hw1
  obtain ⟨g, hg⟩ : ∃ g, g = w.heap.size := ⟨_, rfl⟩
  rw [← hg] at hbk
  have HG := Lib.hid hg
  have e0 : w1.cell? ⟨g, 0, none⟩ = some (.int .i64 W) := by rw [cell_of_row w1 g 0 _ _ _ hbk]; rfl
  have e1 : w1.cell? ⟨g, 1, none⟩ = some (.int .i64 G) := by rw [cell_of_row w1 g 1 _ _ _ hbk]; rfl
  have e2 : w1.cell? ⟨g, 2, none⟩ = some (.int .i64 M) := by rw [cell_of_row w1 g 2 _ _ _ hbk]; rfl
  have e3 : w1.cell? ⟨g, 3, none⟩ = some (.int .i64 H) := by rw [cell_of_row w1 g 3 _ _ _ hbk]; rfl
  have e4 : w1.cell? ⟨g, 4, none⟩ = some (.int .i64 P) := by rw [cell_of_row w1 g 4 _ _ _ hbk]; rfl
  clear hk1 hw1 hg hbk
  go_enter Tryd.func74, Tryd.ntmps74
  go_upto_region 1 with fail
  rw [← HW.out, ← HG.out]
  by_cases c1 : 1 ≤ W
  rotate_left 1
  ·
    have hv := Lib.hid (show b = false by rw [HB.out]; simp [c1])
    go_wp2_with fail
    go_ret
    exact ⟨by rw [hv.out]; rfl, HK.out⟩
  by_cases c2 : W ≤ 32
  rotate_left 1
  ·
    have hv := Lib.hid (show b = false by rw [HB.out]; simp [c1, c2])
    go_wp2_with fail
    go_ret
    exact ⟨by rw [hv.out]; rfl, HK.out⟩
  by_cases c3 : 0 ≤ G
  rotate_left 1
  ·
    have hv := Lib.hid (show b = false by rw [HB.out]; simp [c1, c2, c3])
    go_wp2_with fail
    go_ret
    exact ⟨by rw [hv.out]; rfl, HK.out⟩
  by_cases c4 : G ≤ 1099511627776
  rotate_left 1
  ·
    have hv := Lib.hid (show b = false by rw [HB.out]; simp [c1, c2, c3, c4])
    go_wp2_with fail
    go_ret
    exact ⟨by rw [hv.out]; rfl, HK.out⟩
  by_cases c5 : 3 ≤ P
  rotate_left 1
  ·
    have hv := Lib.hid (show b = false by rw [HB.out]; simp [c1, c2, c3, c4, c5])
    go_wp2_with fail
    go_ret
    exact ⟨by rw [hv.out]; rfl, HK.out⟩
  by_cases c6 : P ≤ 4096
  rotate_left 1
  ·
    have hv := Lib.hid (show b = false by rw [HB.out]; simp [c1, c2, c3, c4, c5, c6])
    go_wp2_with fail
    go_ret
    exact ⟨by rw [hv.out]; rfl, HK.out⟩
  by_cases c7 : 2 ≤ M
  rotate_left 1
  ·
    have hv := Lib.hid (show b = false by rw [HB.out]; simp [c1, c2, c3, c4, c5, c6, c7])
    go_wp2_with fail
    go_ret
    exact ⟨by rw [hv.out]; rfl, HK.out⟩
  by_cases c8 : M ≤ P
  rotate_left 1
  ·
    have hv := Lib.hid (show b = false by rw [HB.out]; simp [c1, c2, c3, c4, c5, c6, c7, c8])
    go_wp2_with fail
    go_ret
    exact ⟨by rw [hv.out]; rfl, HK.out⟩
  by_cases c9 : H = 0
  ·
    subst c9
    have hv := Lib.hid (show b = true by rw [HB.out]; simp [c1, c2, c3, c4, c5, c6, c7, c8])
    go_wp2_with fail
    go_ret
    exact ⟨by rw [hv.out]; rfl, HK.out⟩
  by_cases c10 : 2 ≤ H
  rotate_left 1
  ·
    have hv := Lib.hid (show b = false by rw [HB.out]; simp [c1, c2, c3, c4, c5, c6, c7, c8, c9, c10])
    go_wp2_with fail
    go_ret
    exact ⟨by rw [hv.out, ← beq_eq_false_iff_ne.mpr c9]; rfl, HK.out⟩
  by_cases c11 : H < M
  rotate_left 1
  ·
    have hv := Lib.hid (show b = false by rw [HB.out]; simp [c1, c2, c3, c4, c5, c6, c7, c8, c9, c10, c11])
    go_wp2_with fail
    go_ret
    exact ⟨by rw [hv.out, ← beq_eq_false_iff_ne.mpr c9]; rfl, HK.out⟩
  have hv := Lib.hid (show b = true by rw [HB.out]; simp [c1, c2, c3, c4, c5, c6, c7, c8, c9, c10, c11])
  go_wp2_with fail
  go_ret
  exact ⟨by rw [hv.out]; rfl, HK.out⟩
set_option maxRecDepth 100000 in
theorem place_any {w : World} (page : Int) : Calls Tryd.prog 86 #[.int .i64 page] w fun e w' => e = .returned (.bool (placeB page)) ∧ Keeps [] w w' := by
  obtain ⟨b, hb⟩ : ∃ b, b = placeB page := ⟨_, rfl⟩
  rw [← hb]
  unfold placeB at hb
  have HB := Lib.hid hb
  clear hb
  go_enter Tryd.func86, Tryd.ntmps86
  by_cases c1 : 2 ≤ page
  · by_cases c2 : page < 4096
    · have hv := Lib.hid (show b = true by rw [HB.out]; simp [c1, c2])
      go_wp2_with fail
      go_ret
      exact ⟨by rw [hv.out]; rfl, Keeps.refl _ _⟩
    · have hv := Lib.hid (show b = false by rw [HB.out]; simp [c1, c2])
      go_wp2_with fail
      go_ret
      exact ⟨by rw [hv.out]; rfl, Keeps.refl _ _⟩
  · have hv := Lib.hid (show b = false by rw [HB.out]; simp [c1])
    go_wp2_with fail
    go_ret
    exact ⟨by rw [hv.out]; rfl, Keeps.refl _ _⟩
set_option maxRecDepth 100000 in
theorem kindOf_any {w : World} (k : Int) : Calls Tryd.prog 87 #[.int .i64 k] w fun e w' => e = .returned (.bool (kindB k)) ∧ Keeps [] w w' := by
  go_enter Tryd.func87, Tryd.ntmps87
  by_cases c1 : k = 1
  · subst c1
    go_wp2_with fail
    go_ret
    exact ⟨rfl, Keeps.refl _ _⟩
  by_cases c2 : k = 2
  · subst c2
    go_wp2_with fail
    go_ret
    exact ⟨rfl, Keeps.refl _ _⟩
  by_cases c3 : k = 3
  · subst c3
    go_wp2_with fail
    go_ret
    exact ⟨rfl, Keeps.refl _ _⟩
  obtain ⟨b, hb⟩ : ∃ b, b = kindB k := ⟨_, rfl⟩
  rw [← hb]
  unfold kindB at hb
  have hv := Lib.hid (show b = false by rw [hb]; simp [c1, c2, c3])
  clear hb
  go_wp2_with fail
  go_ret
  exact ⟨by rw [hv.out]; rfl, Keeps.refl _ _⟩
end Go.Proofs.YtojlojdkhegbkaaDoor

/-
  What PackSuper lays is the superblock's bytes: no walk here.
-/
namespace Go.Proofs.YtojlojdkhegbkaaDoor
set_option linter.unusedVariables false

theorem over_mid {a b c xs : List UInt8} {o : Nat} (ha : a.length = o) (hb : b.length = xs.length) : over (a ++ (b ++ c)) o xs = a ++ (xs ++ c) := by
  unfold over
  rw [List.take_left' ha, ← ha, List.append_assoc]
  have : (a ++ (b ++ c)).drop (a.length + xs.length) = c := by
    rw [← List.append_assoc]
    exact List.drop_left' (by rw [List.length_append, hb])
  rw [this]
theorem zeros_split (n m : Nat) : List.replicate (n + m) (0 : UInt8) = List.replicate n 0 ++ List.replicate m 0 := by simp
theorem sup_laid {W G M H P : Nat} {I4 I5 I6 I7 I8 I9 Z : List UInt8} (h4 : I4 = over (List.replicate 60 (0 : UInt8)) 0 [76, 68, 71, 49]) (h5 : I5 = I4.set 4 (UInt8.ofNat W)) (h6 : I6 = over I5 8 (leN 8 G)) (h7 : I7 = over I6 16 (leN 4 M))
    (h8 : I8 = over I7 20 (leN 4 H)) (h9 : I9 = over I8 24 (leN 4 P)) (hZ : Z = List.replicate 256 (0 : UInt8)) : over Z 0 (sealL I9) = supL ⟨W, G, M, H, P⟩ := by
  have e4 : I4 = [76, 68, 71, 49, 0, 0, 0, 0] ++ (List.replicate 8 0 ++ List.replicate 44 0) := by rw [h4]; rfl
  have e5 : I5 = [76, 68, 71, 49, UInt8.ofNat W, 0, 0, 0] ++ (List.replicate 8 0 ++ List.replicate 44 0) := by rw [h5, e4]; rfl
  have e6 : I6 = ([76, 68, 71, 49, UInt8.ofNat W, 0, 0, 0] ++ leN 8 G) ++ (List.replicate 4 0 ++ List.replicate 40 0) := by
    rw [h6, e5, over_mid (o := 8) rfl (by rw [leN_length]; rfl), zeros_split 4 40, List.append_assoc]
  have e7 : I7 = ([76, 68, 71, 49, UInt8.ofNat W, 0, 0, 0] ++ leN 8 G ++ leN 4 M) ++ (List.replicate 4 0 ++ List.replicate 36 0) := by
    rw [h7, e6, over_mid (o := 16) (by rw [List.length_append, leN_length]; rfl) (by rw [leN_length]; rfl), zeros_split 4 36]
    simp only [List.append_assoc]
  have e8 : I8 = ([76, 68, 71, 49, UInt8.ofNat W, 0, 0, 0] ++ leN 8 G ++ leN 4 M ++ leN 4 H) ++ (List.replicate 4 0 ++ List.replicate 32 0) := by
    rw [h8, e7, over_mid (o := 20) (by rw [List.length_append, List.length_append, leN_length, leN_length]; rfl) (by rw [leN_length]; rfl), zeros_split 4 32]
    simp only [List.append_assoc]
  have e9 : I9 = supHead ⟨W, G, M, H, P⟩ := by
    rw [h9, e8, over_mid (o := 24) (by rw [List.length_append, List.length_append, List.length_append, leN_length, leN_length, leN_length]; rfl) (by rw [leN_length]; rfl)]
    simp only [supHead, Int.toNat_natCast, List.append_assoc, List.cons_append, List.nil_append]
  rw [e9, supL, hZ]
  have hl : (sealL (supHead ⟨W, G, M, H, P⟩)).length = 64 := by rw [sealL_length, supHead_length]
  have := over_mid (a := []) (b := List.replicate 64 0) (c := List.replicate 192 0) (xs := sealL (supHead ⟨W, G, M, H, P⟩)) (o := 0) rfl (by rw [hl]; rfl)
  rw [List.nil_append, List.nil_append, ← zeros_split] at this
  exact this
end Go.Proofs.YtojlojdkhegbkaaDoor

/-
  A superblock in memory; slices as arrays; results that lie in cells.
-/
namespace Go.Proofs.YtojlojdkhegbkaaDoor
set_option linter.unusedVariables false
set_option linter.unusedSimpArgs false
open Go.RowKit

/-- 'x[:n]' as an array of n. -/
theorem wl_arrayAt {ops : Array Oper} {rest : List Oper} {o : Oper} {a : Act} {w : World} {Q : Exit → Act → World → Prop} (hg : o.guard = none) (t e : TypeId) (n : Nat) (x : Operand) (ho : o.op = .sliceToArrayPointer t x) (ht : Tryd.prog.underlying t = some (.array n e))
    {p : Option Addr} {m c : Nat} (hx : a.eval x = .slice p m c) (hm : n ≤ m) (h : wpList Tryd.prog ops Q rest (a.put o.dst (.pointer p)) w) : wpList Tryd.prog ops Q (o :: rest) a w := by
  refine wpList_plain hg fun _ hK => ?_
  unfold Oper.wp execOp
  simp [ho, hx, Instr.arrayAt, run_underlying ht, Nat.not_lt.2 hm, Result.andThen]
  exact hK _ _ h

/-- A variable of a type of rows, read whole behind the call: alone, or ahead of a plain result. -/
theorem results_row {fn : Func} {tmps : Array Value} {w : World} {s b : Nat} {t : TypeId} {cs : List Value} {d : TypeDesc} (h : fn.results = #[.cell s t]) (hv : tmps.getD s undef = .pointer (some ⟨b, 0, none⟩)) (hr : w.rangeAt b 0 cs) (hu : Tryd.prog.underlying t = some d) (hd : d.isRow = true) (hi : (Tryd.prog.info? t).map (·.size) = some cs.length) :
    (results fn tmps).run Tryd.prog w = .ok (.agg cs.toArray) w := by
  have h1 := run_loadVar_mid w b 0 t cs _ hr hu hd hi
  simp only [Array.getD_eq_getD_getElem?] at hv
  simp [results, h, hv, h1, asAddr]
theorem results_row2 {fn : Func} {tmps : Array Value} {w : World} {s s2 b : Nat} {t : TypeId} {cs : List Value} {u : Value} {d : TypeDesc} (h : fn.results = #[.cell s t, .tmp s2]) (hv : tmps.getD s undef = .pointer (some ⟨b, 0, none⟩)) (hu2 : tmps.getD s2 undef = u) (hr : w.rangeAt b 0 cs) (hu : Tryd.prog.underlying t = some d) (hd : d.isRow = true) (hi : (Tryd.prog.info? t).map (·.size) = some cs.length) :
    (results fn tmps).run Tryd.prog w = .ok (.tuple #[.agg cs.toArray, u]) w := by
  have h1 := run_loadVar_mid w b 0 t cs _ hr hu hd hi
  simp only [Array.getD_eq_getD_getElem?] at hv hu2
  simp [results, h, hv, hu2, h1, asAddr]

def supC (s : Sup) : List Value := [.int .i64 s.width, .int .i64 s.gen, .int .i64 s.mark, .int .i64 s.head, .int .i64 s.pages]
theorem supV_eq (s : Sup) : supV s = .agg (supC s).toArray := rfl
theorem size_super : (Tryd.prog.info? 47).map (·.size) = some 5 := by kernel_rfl
theorem supC_one (s : Sup) : ∀ v ∈ supC s, v.oneCell' = true := by
  intro v hv
  simp only [supC, List.mem_cons, List.not_mem_nil, or_false] at hv
  rcases hv with rfl | rfl | rfl | rfl | rfl <;> rfl
/-- A superblock at a block's head. -/
def SupAt (w : World) (g : Nat) (s : Sup) : Prop := w.heap[g]? = some (.cells (supC s).toArray 47 (0, 0))
theorem SupAt.cells {w : World} {g : Nat} {s : Sup} (h : SupAt w g s) : w.cell? ⟨g, 0, none⟩ = some (.int .i64 s.width) ∧ w.cell? ⟨g, 1, none⟩ = some (.int .i64 s.gen) ∧ w.cell? ⟨g, 2, none⟩ = some (.int .i64 s.mark) ∧ w.cell? ⟨g, 3, none⟩ = some (.int .i64 s.head) ∧ w.cell? ⟨g, 4, none⟩ = some (.int .i64 s.pages) := by
  refine ⟨?_, ?_, ?_, ?_, ?_⟩ <;> (rw [cell_of_row w g _ _ _ _ h]; rfl)
theorem SupAt.free {w : World} {g : Nat} {s : Sup} (h : SupAt w g s) (j : Nat) : w.frozen? ⟨g, j, none⟩ = false := frozen_of_row w g j _ _ h
theorem SupAt.keeps {w w' : World} {g : Nat} {s : Sup} {F : List Nat} (h : SupAt w g s) (hk : Keeps F w w') (hg : g ∉ F) : SupAt w' g s := (hk.block g (lt_of_heap h) hg).trans h
theorem SupAt.store {w : World} {g : Nat} {s : Sup} (h : SupAt w g s) (s' : Sup) :
    (Instr.storeAt 47 (.pointer (some ⟨g, 0, none⟩)) (supV s')).run Tryd.prog w = .ok () (w.setCells g 0 (supC s')) ∧ SupAt (w.setCells g 0 (supC s')) g s' := by
  refine ⟨run_storeAt_mid (P := Tryd.prog) w g 0 47 (supC s').toArray (there_all h 0 _ (by simp [supC])) (by rw [size_super]; rfl) (all_oneCell_toArray (supC_one s')), ?_⟩
  have := heap_setCells_same g 47 (supC s') 0 w (supC s) h (by simp [supC])
  unfold SupAt
  rw [this]
  rfl
theorem SupAt.load {w : World} {g : Nat} {s : Sup} (h : SupAt w g s) : (Instr.loadAt 47 (.pointer (some ⟨g, 0, none⟩))).run Tryd.prog w = .ok (supV s) w :=
  run_loadAt_mid w g 0 47 (supC s) _ (rangeAt_all h) Tryd.underlying47 rfl (by rw [size_super]; rfl)
theorem results_sup {fn : Func} {tmps : Array Value} {w : World} {i g : Nat} {s : Sup} (h : fn.results = #[.cell i 47]) (hv : tmps.getD i undef = .pointer (some ⟨g, 0, none⟩)) (hs : SupAt w g s) : (results fn tmps).run Tryd.prog w = .ok (supV s) w :=
  results_row h hv (rangeAt_all hs) Tryd.underlying47 rfl (by rw [size_super]; rfl)
theorem results_sup2 {fn : Func} {tmps : Array Value} {w : World} {i j g : Nat} {s : Sup} {u : Value} (h : fn.results = #[.cell i 47, .tmp j]) (hv : tmps.getD i undef = .pointer (some ⟨g, 0, none⟩)) (hu : tmps.getD j undef = u) (hs : SupAt w g s) : (results fn tmps).run Tryd.prog w = .ok (.tuple #[supV s, u]) w :=
  results_row2 h hv hu (rangeAt_all hs) Tryd.underlying47 rfl (by rw [size_super]; rfl)
end Go.Proofs.YtojlojdkhegbkaaDoor

/-
  Package frame: UnpackSuper.
-/
namespace Go.Proofs.YtojlojdkhegbkaaDoor
set_option linter.unusedVariables false
set_option linter.unusedSimpArgs false
open Go.RowKit

theorem size_sector : (Tryd.prog.info? 162).map (·.size) = some 64 := by kernel_rfl
theorem Blk.part {w : World} {g : Nat} {t : TypeId} {l : List UInt8} (h : Blk w g t l) (o n c : Nat) (ho : o + n ≤ l.length) (hc : n ≤ c) (hm : c ≤ maxLen) : BytesAt w (.slice (some ⟨g, o, none⟩) n c) ((l.drop o).take n) := by
  have e : ((l.drop o).take n).length = n := by rw [List.length_take, List.length_drop]; omega
  refine .inr ⟨g, o, c, by rw [e], by omega, hm, h.lt, fun j u hj => ?_⟩
  have hjn : j < n := by
    have := (List.getElem?_eq_some_iff.1 hj).1
    rw [List.length_map, e] at this
    exact this
  rw [List.getElem?_map, List.getElem?_take_of_lt hjn, List.getElem?_drop, List.getElem?_eq_getElem (by omega)] at hj
  rw [h.cell (o + j) (by omega)]
  exact hj
set_option maxRecDepth 100000 in
set_option maxHeartbeats 1600000 in
theorem unpackSuper_any {w : World} {v : Value} {l : List UInt8} (hv : BytesAt w v l) :
    Calls Tryd.prog 71 #[v] w fun e w' => e = .returned (.tuple #[supV (unsupL l).2, .int .i64 (unsupL l).1]) ∧ Keeps [] w w' := by
  obtain ⟨a, c, rfl, hc, hm⟩ := hv.form
  unfold maxLen at hm
  obtain ⟨n, hn⟩ : ∃ n, n = l.length := ⟨_, rfl⟩
  obtain ⟨g, hg⟩ : ∃ g, g = w.heap.size := ⟨_, rfl⟩
  obtain ⟨w1, hw1⟩ : ∃ w1, w1 = w.alloc (.cells #[.int .i64 0, .int .i64 0, .int .i64 0, .int .i64 0, .int .i64 0] 47 (0, 0)) := ⟨_, rfl⟩
  have hs1 : SupAt w1 g zSup := by rw [hw1]; exact heap_new_at hg
  have hk1 : Keeps [] w w1 := by rw [hw1]; exact (Keeps.refl _ _).alloc _
  have hg0 : w.heap.size ≤ g := by omega
  have HG0 := Lib.hid hg0
  have HG := Lib.hid hg
  have HW := Lib.hid hw1
  have HK := Lib.hid hk1
  by_cases h256 : n = 256
  rotate_left 1
  · have hu : unsupL l = (53, zSup) := by unfold unsupL; rw [if_pos (by rw [← hn]; exact h256)]
    obtain ⟨st, ss⟩ := hs1.store zSup
    have ST := Lib.hid st
    have SS := Lib.hid ss
    have n1 : ((n : Int) != 256) = true := by simp; omega
    rw [hu, ← hn]
    rw [← hn] at hc
    clear hv hn hg hw1 hs1 hk1 st ss h256 hu hg0
    go_enter Tryd.func71, Tryd.ntmps71
    go_upto_region 1 with fail
    rw [← HW.out, ← HG.out]
    go_wp2_with (first | (refine wl_store rfl 47 (.tmp 2) (.tmp 9) rfl ?_; refine ⟨_, ST.out, ?_⟩; try simp only [Act.put, List.setIfInBounds_toArray, List.set_cons_zero, List.set_cons_succ, List.getElem_toArray, List.getElem_cons_zero, List.getElem_cons_succ]))
    exact bodyPost_ret (results_sup2 rfl rfl rfl SS.out) rfl ⟨rfl, HK.out.setCells (.inr HG0.out) _ _⟩
  subst h256
  obtain ⟨gb, ob, rfl, hgb, hrb⟩ := hv.at (by omega)
  have hup := (hv.keeps hk1 (by simp)).upto 64 (by omega)
  have CW := Lib.hid (whole_any hup)
  have hl64 : (l.take 64).length = 64 := by rw [List.length_take]; omega
  by_cases hwh : wholeL (l.take 64) = true
  rotate_left 1
  · have hwf : wholeL (l.take 64) = false := by simpa using hwh
    have hu : unsupL l = (52, zSup) := by unfold unsupL; rw [if_neg (by omega), if_pos hwf]
    rw [hwf] at CW
    rw [hu, ← hn]
    rw [← hn] at hc
    have HS1 := Lib.hid hs1
    clear hv hn hg hw1 hs1 hk1 hu hup hwh hwf hl64 hrb hgb hg0
    go_enter Tryd.func71, Tryd.ntmps71
    go_upto_region 1 with fail
    rw [← HW.out, ← HG.out]
    go_wp2_with fail
    refine CW.out.mono ?_
    rintro e w2 ⟨rfl, hk2⟩
    obtain ⟨st, ss⟩ := (HS1.out.keeps hk2 (by simp)).store zSup
    have ST := Lib.hid st
    have SS := Lib.hid ss
    have HK2 := Lib.hid (HK.out.trans (G := []) hk2 (by simp))
    clear hk2 st ss
    go_wp2_with (first | (refine wl_store rfl 47 (.tmp 2) (.tmp 14) rfl ?_; refine ⟨_, ST.out, ?_⟩; try simp only [Act.put, List.setIfInBounds_toArray, List.set_cons_zero, List.set_cons_succ, List.getElem_toArray, List.getElem_cons_zero, List.getElem_cons_succ]))
    exact bodyPost_ret (results_sup2 rfl rfl rfl SS.out) rfl ⟨rfl, HK2.out.setCells (.inr HG0.out) _ _⟩
  rw [hwh] at CW
  have hus : unsupL l = if (l.take 4 == [76, 68, 71, 49] && zeroB ((l.drop 5).take 3) && zeroB ((l.drop 28).take 32) && zeroB ((l.drop 15).take 1)) = false then (53, zSup) else
      if (⟨((l.getD 4 0).toNat : Int), (unLe ((l.drop 8).take 7) : Int), (unLe ((l.drop 16).take 4) : Int), (unLe ((l.drop 20).take 4) : Int), (unLe ((l.drop 24).take 4) : Int)⟩ : Sup).valid = false then (53, zSup) else
      (0, ⟨(l.getD 4 0).toNat, unLe ((l.drop 8).take 7), unLe ((l.drop 16).take 4), unLe ((l.drop 20).take 4), unLe ((l.drop 24).take 4)⟩) := by
    unfold unsupL
    rw [if_neg (by omega), if_neg (by rw [hwh]; simp)]
  obtain ⟨R, hR⟩ : ∃ R, R = unsupL l := ⟨_, rfl⟩
  rw [← hR] at hus ⊢
  have HUS := Lib.hid hus
  obtain ⟨L, hL⟩ : ∃ L, L = l.take 64 := ⟨_, rfl⟩
  rw [← hL] at hl64
  have hsub : ∀ o k, o + k ≤ 64 → (l.drop o).take k = (L.drop o).take k := fun o k h => by rw [hL, List.drop_take, List.take_take, Nat.min_eq_left (by omega)]
  have HSUB := Lib.hid hsub
  have h4L : l.getD 4 0 = L.getD 4 0 := by rw [hL]; simp [List.getD_eq_getElem?_getD, List.getElem?_take_of_lt]
  have HL4 := Lib.hid h4L
  have hts : l.take 4 = L.take 4 := by have := hsub 0 4 (by omega); simpa using this
  have HTS := Lib.hid hts
  have HHV := Lib.hid hv
  have HHR := Lib.hid hrb
  have HL := Lib.hid hL
  rw [← hn]
  rw [← hn] at hc
  have HS1 := Lib.hid hs1
  clear hv hn hg hw1 hs1 hk1 hup hwh hrb hg0 hus hL hsub h4L hts hR
  go_enter Tryd.func71, Tryd.ntmps71
  go_upto_region 1 with fail
  rw [← HW.out, ← HG.out]
  go_wp2_with fail
  refine CW.out.mono ?_
  rintro e w2 ⟨rfl, hk2⟩
  have hkw2 : Keeps [] w w2 := HK.out.trans (G := []) hk2 (by simp)
  have hr2 : w2.rangeAt gb ob (L.map B) := by
    have := rangeAt_of_heap HHR.out (hkw2.block gb hgb (by simp))
    intro j u hj
    refine this j u ?_
    rw [HL.out] at hj
    rw [List.getElem?_map, List.getElem?_take] at hj
    split at hj
    · rw [List.getElem?_map]; exact hj
    · cases hj
  have HR2 := Lib.hid hr2
  have HS2 := Lib.hid (HS1.out.keeps hk2 (by simp))
  have HK2 := Lib.hid hkw2
  have HSZ := Lib.hid (show (Tryd.prog.info? 162).map (·.size) = some (L.map B).length by rw [size_sector, List.length_map, hl64])
  have hst3 : (Instr.storeAt 162 (.pointer (some ⟨w2.heap.size, 0, none⟩)) (.agg (L.map B).toArray)).run Tryd.prog (w2.alloc (.cells #[.int .u8 0, .int .u8 0, .int .u8 0, .int .u8 0, .int .u8 0, .int .u8 0, .int .u8 0, .int .u8 0, .int .u8 0, .int .u8 0, .int .u8 0, .int .u8 0, .int .u8 0, .int .u8 0, .int .u8 0, .int .u8 0, .int .u8 0, .int .u8 0, .int .u8 0, .int .u8 0, .int .u8 0, .int .u8 0, .int .u8 0, .int .u8 0, .int .u8 0, .int .u8 0, .int .u8 0, .int .u8 0, .int .u8 0, .int .u8 0, .int .u8 0, .int .u8 0, .int .u8 0, .int .u8 0, .int .u8 0, .int .u8 0, .int .u8 0, .int .u8 0, .int .u8 0, .int .u8 0, .int .u8 0, .int .u8 0, .int .u8 0, .int .u8 0, .int .u8 0, .int .u8 0, .int .u8 0, .int .u8 0, .int .u8 0, .int .u8 0, .int .u8 0, .int .u8 0, .int .u8 0, .int .u8 0, .int .u8 0, .int .u8 0, .int .u8 0, .int .u8 0, .int .u8 0, .int .u8 0, .int .u8 0, .int .u8 0, .int .u8 0, .int .u8 0] 162)) = .ok () (w2.alloc (.cells (L.map B).toArray 162)) :=
    run_storeAt_new w2 162 _ (L.map B).toArray (by rw [HSZ.out]; simp) (by simp [hl64]) (all_oneCell_toArray (B_one L))
  have HST3 := Lib.hid hst3
  clear hkw2 hr2 hk2 hst3 CW
  go_upto_region 6 with (first | (refine wl_arrayAt rfl 162 _ 64 (.tmp 16) rfl Tryd.underlying162 rfl (by omega) ?_) | (refine wpList_load_mid rfl 162 (.tmp 17) rfl gb ob (by rfl) (L.map B) _ HR2.out Tryd.underlying162 rfl HSZ.out ?_) | (refine wl_store rfl 162 (.tmp 4) (.tmp 18) rfl ?_; refine ⟨_, HST3.out, ?_⟩; try simp only [Act.put, List.setIfInBounds_toArray, List.set_cons_zero, List.set_cons_succ, List.getElem_toArray, List.getElem_cons_zero, List.getElem_cons_succ]))
  obtain ⟨g4, hg4⟩ : ∃ g4, g4 = w2.heap.size := ⟨_, rfl⟩
  obtain ⟨w3, hw3⟩ : ∃ w3, w3 = w2.alloc (.cells (L.map B).toArray 162) := ⟨_, rfl⟩
  have hb3 : Blk w3 g4 162 L := by rw [hw3]; exact heap_new_at hg4
  have hk23 : Keeps [] w2 w3 := by rw [hw3]; exact (Keeps.refl _ _).alloc _
  rw [← hw3, ← hg4]
  have HB3 := Lib.hid hb3
  have HK3 := Lib.hid (HK2.out.trans (G := []) hk23 (by simp))
  have HS3 := Lib.hid (HS2.out.keeps hk23 (by simp))
  have lt4 : (L.take 4).length = 4 := by rw [List.length_take]; omega
  obtain ⟨S, hS⟩ : ∃ S : ByteArray, S = ⟨(L.take 4).toArray⟩ := ⟨_, rfl⟩
  have hcv : (convert 25 9 (.slice (some ⟨g4, 0, none⟩) 4 64)).run Tryd.prog w3 = .ok (.string S) w3 := by
    have := run_convert_bytes_back (P := Tryd.prog) w3 25 9 5 ⟨g4, 0, none⟩ 64 (L.take 4) Tryd.underlying25 (by kernel_rfl) (by kernel_rfl) (fun j hj => by
      rw [Addr.add_mid, Nat.zero_add, hb3.cell j (by rw [List.length_take] at hj; omega), List.getElem_take]
      rfl)
    rw [lt4] at this
    rw [this, hS]
  have HCV := Lib.hid hcv
  have HS4 := Lib.hid hS
  have hstf := HS3.out.store zSup
  have z1 := Lib.hid (allZero_any (hb3.part 5 3 59 (by omega) (by omega) (by simp [maxLen])))
  have z2 := Lib.hid (allZero_any (hb3.part 28 32 36 (by omega) (by omega) (by simp [maxLen])))
  have z3 := Lib.hid (allZero_any (hb3.part 15 1 49 (by omega) (by omega) (by simp [maxLen])))
  have HSTF := Lib.hid hstf
  have HGW := Lib.hid hg4
  clear hw3 hg4 hb3 hk23 hcv hS lt4 hstf HST3 HSZ HS2 HR2
  have hT : S.toList = L.take 4 := by rw [HS4.out]; exact ByteArray.toList_mk _
  have e1 := HSUB.out 5 3 (by omega)
  have e2 := HSUB.out 28 32 (by omega)
  have e3 := HSUB.out 15 1 (by omega)
  have hE := HUS.out
  rw [HTS.out, e1, e2, e3] at hE
  obtain ⟨Y1, hY1⟩ : ∃ y, y = zeroB ((L.drop 5).take 3) := ⟨_, rfl⟩
  obtain ⟨Y2, hY2⟩ : ∃ y, y = zeroB ((L.drop 28).take 32) := ⟨_, rfl⟩
  obtain ⟨Y3, hY3⟩ : ∃ y, y = zeroB ((L.drop 15).take 1) := ⟨_, rfl⟩
  rw [← hY1] at z1 hE
  rw [← hY2] at z2 hE
  rw [← hY3] at z3 hE
  obtain ⟨st, ss⟩ := HSTF.out
  have ST := Lib.hid st
  have SS := Lib.hid ss
  have HE := Lib.hid hE
  have HT := Lib.hid hT
  clear hE hT hY1 hY2 hY3 e1 e2 e3 st ss HUS HTS HSTF
  obtain ⟨b1, hb1⟩ : ∃ b, b = (L.take 4 == [76, 68, 71, 49]) := ⟨_, rfl⟩
  have q1 : (S.toList == [76, 68, 71, 49]) = b1 := by rw [hb1, HT.out]
  have HE1 := HE.out
  rw [← hb1] at HE1
  clear HE hb1
  cases b1 with
  | false =>
    have HU := Lib.hid (show R = (53, zSup) by rw [HE1]; rfl)
    clear HE1
    go_wp2_with (first | (refine wl_convert rfl 25 9 (.tmp 19) rfl ?_; refine ⟨_, _, HCV.out, ?_⟩; try simp only [Act.put, List.setIfInBounds_toArray, List.set_cons_zero, List.set_cons_succ, List.getElem_toArray, List.getElem_cons_zero, List.getElem_cons_succ]) | (refine wl_store rfl 47 (.tmp 2) (.tmp 37) rfl ?_; refine ⟨_, ST.out, ?_⟩; try simp only [Act.put, List.setIfInBounds_toArray, List.set_cons_zero, List.set_cons_succ, List.getElem_toArray, List.getElem_cons_zero, List.getElem_cons_succ]) | (go_at_call 83; ((with_reducible refine z1.out.mono ?_); rintro e w' ⟨rfl, rfl⟩)) | (go_at_call 83; ((with_reducible refine z2.out.mono ?_); rintro e w' ⟨rfl, rfl⟩)) | (go_at_call 83; ((with_reducible refine z3.out.mono ?_); rintro e w' ⟨rfl, rfl⟩)))
    exact bodyPost_ret (results_sup2 rfl rfl rfl SS.out) rfl ⟨by rw [HU.out]; rfl, HK3.out.setCells (.inr HG0.out) _ _⟩
  | true =>
  cases Y1 with
  | false =>
    have HU := Lib.hid (show R = (53, zSup) by rw [HE1]; rfl)
    clear HE1
    go_wp2_with (first | (refine wl_convert rfl 25 9 (.tmp 19) rfl ?_; refine ⟨_, _, HCV.out, ?_⟩; try simp only [Act.put, List.setIfInBounds_toArray, List.set_cons_zero, List.set_cons_succ, List.getElem_toArray, List.getElem_cons_zero, List.getElem_cons_succ]) | (refine wl_store rfl 47 (.tmp 2) (.tmp 37) rfl ?_; refine ⟨_, ST.out, ?_⟩; try simp only [Act.put, List.setIfInBounds_toArray, List.set_cons_zero, List.set_cons_succ, List.getElem_toArray, List.getElem_cons_zero, List.getElem_cons_succ]) | (go_at_call 83; ((with_reducible refine z1.out.mono ?_); rintro e w' ⟨rfl, rfl⟩)) | (go_at_call 83; ((with_reducible refine z2.out.mono ?_); rintro e w' ⟨rfl, rfl⟩)) | (go_at_call 83; ((with_reducible refine z3.out.mono ?_); rintro e w' ⟨rfl, rfl⟩)))
    exact bodyPost_ret (results_sup2 rfl rfl rfl SS.out) rfl ⟨by rw [HU.out]; rfl, HK3.out.setCells (.inr HG0.out) _ _⟩
  | true =>
  cases Y2 with
  | false =>
    have HU := Lib.hid (show R = (53, zSup) by rw [HE1]; rfl)
    clear HE1
    go_wp2_with (first | (refine wl_convert rfl 25 9 (.tmp 19) rfl ?_; refine ⟨_, _, HCV.out, ?_⟩; try simp only [Act.put, List.setIfInBounds_toArray, List.set_cons_zero, List.set_cons_succ, List.getElem_toArray, List.getElem_cons_zero, List.getElem_cons_succ]) | (refine wl_store rfl 47 (.tmp 2) (.tmp 37) rfl ?_; refine ⟨_, ST.out, ?_⟩; try simp only [Act.put, List.setIfInBounds_toArray, List.set_cons_zero, List.set_cons_succ, List.getElem_toArray, List.getElem_cons_zero, List.getElem_cons_succ]) | (go_at_call 83; ((with_reducible refine z1.out.mono ?_); rintro e w' ⟨rfl, rfl⟩)) | (go_at_call 83; ((with_reducible refine z2.out.mono ?_); rintro e w' ⟨rfl, rfl⟩)) | (go_at_call 83; ((with_reducible refine z3.out.mono ?_); rintro e w' ⟨rfl, rfl⟩)))
    exact bodyPost_ret (results_sup2 rfl rfl rfl SS.out) rfl ⟨by rw [HU.out]; rfl, HK3.out.setCells (.inr HG0.out) _ _⟩
  | true =>
  cases Y3 with
  | false =>
    have HU := Lib.hid (show R = (53, zSup) by rw [HE1]; rfl)
    clear HE1
    go_wp2_with (first | (refine wl_convert rfl 25 9 (.tmp 19) rfl ?_; refine ⟨_, _, HCV.out, ?_⟩; try simp only [Act.put, List.setIfInBounds_toArray, List.set_cons_zero, List.set_cons_succ, List.getElem_toArray, List.getElem_cons_zero, List.getElem_cons_succ]) | (refine wl_store rfl 47 (.tmp 2) (.tmp 37) rfl ?_; refine ⟨_, ST.out, ?_⟩; try simp only [Act.put, List.setIfInBounds_toArray, List.set_cons_zero, List.set_cons_succ, List.getElem_toArray, List.getElem_cons_zero, List.getElem_cons_succ]) | (go_at_call 83; ((with_reducible refine z1.out.mono ?_); rintro e w' ⟨rfl, rfl⟩)) | (go_at_call 83; ((with_reducible refine z2.out.mono ?_); rintro e w' ⟨rfl, rfl⟩)) | (go_at_call 83; ((with_reducible refine z3.out.mono ?_); rintro e w' ⟨rfl, rfl⟩)))
    exact bodyPost_ret (results_sup2 rfl rfl rfl SS.out) rfl ⟨by rw [HU.out]; rfl, HK3.out.setCells (.inr HG0.out) _ _⟩
  | true =>
  have hE2 := HE1
  rw [if_neg (by decide)] at hE2
  have HE2 := Lib.hid hE2
  clear HE1 hE2
  go_upto_region 8 with (first | (refine wl_convert rfl 25 9 (.tmp 19) rfl ?_; refine ⟨_, _, HCV.out, ?_⟩; try simp only [Act.put, List.setIfInBounds_toArray, List.set_cons_zero, List.set_cons_succ, List.getElem_toArray, List.getElem_cons_zero, List.getElem_cons_succ]) | (go_at_call 83; ((with_reducible refine z1.out.mono ?_); rintro e w' ⟨rfl, rfl⟩)) | (go_at_call 83; ((with_reducible refine z2.out.mono ?_); rintro e w' ⟨rfl, rfl⟩)) | (go_at_call 83; ((with_reducible refine z3.out.mono ?_); rintro e w' ⟨rfl, rfl⟩)))
  obtain ⟨x4, hx4⟩ : ∃ x, x = L.getD 4 0 := ⟨_, rfl⟩
  obtain ⟨n4, hn4⟩ : ∃ n, n = x4.toNat := ⟨_, rfl⟩
  have hc4 : ∀ wx, Blk wx g4 162 L → wx.cell? ⟨g4, 4, none⟩ = some (.int .u8 n4) := fun wx h => by
    rw [h.cell 4 (by omega), hn4, hx4, List.getD_eq_getElem?_getD, List.getElem?_eq_getElem (by omega)]
    rfl
  obtain ⟨v1, hv1⟩ : ∃ v, v = unLe ((L.drop 8).take 7) := ⟨_, rfl⟩
  obtain ⟨v2, hv2⟩ : ∃ v, v = unLe ((L.drop 16).take 4) := ⟨_, rfl⟩
  obtain ⟨v3, hv3⟩ : ∃ v, v = unLe ((L.drop 20).take 4) := ⟨_, rfl⟩
  obtain ⟨v4, hv4⟩ : ∃ v, v = unLe ((L.drop 24).take 4) := ⟨_, rfl⟩
  have hget : ∀ o k V, k ≤ 7 → o + k ≤ 64 → V = unLe ((L.drop o).take k) → ∀ wx, Blk wx g4 162 L → Calls Tryd.prog 84 #[.slice (some ⟨g4, o, none⟩) (64 - o) (64 - o), .int .i64 k] wx fun e w' => e = .returned (.int .i64 V) ∧ wx = w' := fun o k V hk ho hV wx h => by
    have := get_any k (h.part o (64 - o) (64 - o) (by omega) (Nat.le_refl _) (by simp only [maxLen]; omega)) hk (by rw [List.length_take, List.length_drop]; omega)
    rw [List.take_take, Nat.min_eq_left (by omega), ← hV] at this
    exact this
  have g1 : ∀ wx, Blk wx g4 162 L → Calls Tryd.prog 84 #[.slice (some ⟨g4, 8, none⟩) 56 56, .int .i64 7] wx fun e w' => e = .returned (.int .i64 v1) ∧ wx = w' := hget 8 7 v1 (by omega) (by omega) hv1
  have G1 := Lib.hid g1
  have g2 : ∀ wx, Blk wx g4 162 L → Calls Tryd.prog 84 #[.slice (some ⟨g4, 16, none⟩) 48 48, .int .i64 4] wx fun e w' => e = .returned (.int .i64 v2) ∧ wx = w' := hget 16 4 v2 (by omega) (by omega) hv2
  have G2 := Lib.hid g2
  have g3 : ∀ wx, Blk wx g4 162 L → Calls Tryd.prog 84 #[.slice (some ⟨g4, 20, none⟩) 44 44, .int .i64 4] wx fun e w' => e = .returned (.int .i64 v3) ∧ wx = w' := hget 20 4 v3 (by omega) (by omega) hv3
  have G3 := Lib.hid g3
  have g5 : ∀ wx, Blk wx g4 162 L → Calls Tryd.prog 84 #[.slice (some ⟨g4, 24, none⟩) 40 40, .int .i64 4] wx fun e w' => e = .returned (.int .i64 v4) ∧ wx = w' := hget 24 4 v4 (by omega) (by omega) hv4
  have G4 := Lib.hid g5
  have hx8 : n4 < 256 := by rw [hn4]; exact x4.toNat_lt
  have e4 : IntKind.i64.wrap (n4 : Int) = (n4 : Int) := IntWalk.i64_in _ (by omega)
  have hE3 : R = if (⟨n4, v1, v2, v3, v4⟩ : Sup).valid = false then (53, zSup) else (0, ⟨n4, v1, v2, v3, v4⟩) := by
    have h := HE2.out
    rw [HSUB.out 8 7 (by omega), HSUB.out 16 4 (by omega), HSUB.out 20 4 (by omega), HSUB.out 24 4 (by omega), HL4.out, ← hx4, ← hn4, ← hv1, ← hv2, ← hv3, ← hv4] at h
    exact h
  have HE3 := Lib.hid hE3
  have HC4 := Lib.hid hc4
  clear g1 g2 g3 g5 hE3 hc4 hget hx4 hn4 hv1 hv2 hv3 hv4 HE2 z1 z2 z3 q1 HCV
  refine wp_region_held_drew (S := (fun w' => w'.cell? ⟨g4, 4, none⟩ = some (.int .u8 n4) ∧ Blk w' g4 162 L)) (by kernel_rfl) ?_ (fun hHeld => ?_)
  · exact ⟨HC4.out w3.drew HB3.out, HB3.out⟩
  refine' wpAnyH_take (i := 0) (v := _) rfl (by kernel_rfl) (by kernel_rfl) (by kernel_rfl) (fun _ _ _ h => h) (Or.inl ⟨by rfl, ?_⟩) (by assumption) ?_
  rotate_left 1
  · (intro w0 hSw; (try dsimp only at hSw); go_split_ands; go_simp; (try with_reducible rfl))
  try simp only [Act.put, List.setIfInBounds_toArray, List.set_cons_zero, List.set_cons_succ, List.getElem_toArray, List.getElem_cons_zero, List.getElem_cons_succ]
  refine' wpAnyH_take (i := 1) (v := _) rfl (by kernel_rfl) (by kernel_rfl) (by kernel_rfl) (fun _ _ _ h => h) (Or.inl ⟨by rfl, ?_⟩) (by assumption) ?_
  rotate_left 1
  · (intro w0 hSw; (try dsimp only at hSw); go_split_ands; go_simp; (try with_reducible rfl))
  try simp only [Act.put, List.setIfInBounds_toArray, List.set_cons_zero, List.set_cons_succ, List.getElem_toArray, List.getElem_cons_zero, List.getElem_cons_succ]
  refine' wpAnyH_take (i := 2) (v := _) rfl (by kernel_rfl) (by kernel_rfl) (by kernel_rfl) (fun _ _ _ h => h) (Or.inl ⟨by rfl, ?_⟩) (by assumption) ?_
  rotate_left 1
  · (intro w0 hSw; (try dsimp only at hSw); go_split_ands; go_simp; (try with_reducible rfl))
  try simp only [Act.put, List.setIfInBounds_toArray, List.set_cons_zero, List.set_cons_succ, List.getElem_toArray, List.getElem_cons_zero, List.getElem_cons_succ]
  refine' wpAnyH_take (i := 3) (v := _) rfl (by kernel_rfl) (by kernel_rfl) (by kernel_rfl) (fun _ _ _ h => h) (Or.inl ⟨by rfl, ?_⟩) (by assumption) ?_
  rotate_left 1
  · (intro w0 hSw; (try dsimp only at hSw); go_split_ands; go_simp; (try with_reducible rfl))
  try simp only [Act.put, List.setIfInBounds_toArray, List.set_cons_zero, List.set_cons_succ, List.getElem_toArray, List.getElem_cons_zero, List.getElem_cons_succ]
  refine hc_take (i := 4) (v := .int .i64 v1) rfl (by kernel_rfl) (by kernel_rfl) (by kernel_rfl) (fun _ _ _ h => h) (yieldsC_call (by rfl) 84 _ _ rfl Tryd.f84 Tryd.func84 (by kernel_rfl) rfl #[.slice (some ⟨g4, 8, none⟩) 56 56, .int .i64 7] (by simp [Act.eval]) (fun w0 hS => G1.out w0 hS.2)) (by assumption) ?_
  try simp only [Act.put, List.setIfInBounds_toArray, List.set_cons_zero, List.set_cons_succ, List.getElem_toArray, List.getElem_cons_zero, List.getElem_cons_succ]
  refine' wpAnyH_take (i := 5) (v := _) rfl (by kernel_rfl) (by kernel_rfl) (by kernel_rfl) (fun _ _ _ h => h) (Or.inl ⟨by rfl, ?_⟩) (by assumption) ?_
  rotate_left 1
  · (intro w0 hSw; (try dsimp only at hSw); go_split_ands; go_simp; (try with_reducible rfl))
  try simp only [Act.put, List.setIfInBounds_toArray, List.set_cons_zero, List.set_cons_succ, List.getElem_toArray, List.getElem_cons_zero, List.getElem_cons_succ]
  refine hc_take (i := 6) (v := .int .i64 v2) rfl (by kernel_rfl) (by kernel_rfl) (by kernel_rfl) (fun _ _ _ h => h) (yieldsC_call (by rfl) 84 _ _ rfl Tryd.f84 Tryd.func84 (by kernel_rfl) rfl #[.slice (some ⟨g4, 16, none⟩) 48 48, .int .i64 4] (by simp [Act.eval]) (fun w0 hS => G2.out w0 hS.2)) (by assumption) ?_
  try simp only [Act.put, List.setIfInBounds_toArray, List.set_cons_zero, List.set_cons_succ, List.getElem_toArray, List.getElem_cons_zero, List.getElem_cons_succ]
  refine' wpAnyH_take (i := 7) (v := _) rfl (by kernel_rfl) (by kernel_rfl) (by kernel_rfl) (fun _ _ _ h => h) (Or.inl ⟨by rfl, ?_⟩) (by assumption) ?_
  rotate_left 1
  · (intro w0 hSw; (try dsimp only at hSw); go_split_ands; go_simp; (try with_reducible rfl))
  try simp only [Act.put, List.setIfInBounds_toArray, List.set_cons_zero, List.set_cons_succ, List.getElem_toArray, List.getElem_cons_zero, List.getElem_cons_succ]
  refine hc_take (i := 8) (v := .int .i64 v3) rfl (by kernel_rfl) (by kernel_rfl) (by kernel_rfl) (fun _ _ _ h => h) (yieldsC_call (by rfl) 84 _ _ rfl Tryd.f84 Tryd.func84 (by kernel_rfl) rfl #[.slice (some ⟨g4, 20, none⟩) 44 44, .int .i64 4] (by simp [Act.eval]) (fun w0 hS => G3.out w0 hS.2)) (by assumption) ?_
  try simp only [Act.put, List.setIfInBounds_toArray, List.set_cons_zero, List.set_cons_succ, List.getElem_toArray, List.getElem_cons_zero, List.getElem_cons_succ]
  refine' wpAnyH_take (i := 9) (v := _) rfl (by kernel_rfl) (by kernel_rfl) (by kernel_rfl) (fun _ _ _ h => h) (Or.inl ⟨by rfl, ?_⟩) (by assumption) ?_
  rotate_left 1
  · (intro w0 hSw; (try dsimp only at hSw); go_split_ands; go_simp; (try with_reducible rfl))
  try simp only [Act.put, List.setIfInBounds_toArray, List.set_cons_zero, List.set_cons_succ, List.getElem_toArray, List.getElem_cons_zero, List.getElem_cons_succ]
  refine hc_take (i := 10) (v := .int .i64 v4) rfl (by kernel_rfl) (by kernel_rfl) (by kernel_rfl) (fun _ _ _ h => h) (yieldsC_call (by rfl) 84 _ _ rfl Tryd.f84 Tryd.func84 (by kernel_rfl) rfl #[.slice (some ⟨g4, 24, none⟩) 40 40, .int .i64 4] (by simp [Act.eval]) (fun w0 hS => G4.out w0 hS.2)) (by assumption) ?_
  try simp only [Act.put, List.setIfInBounds_toArray, List.set_cons_zero, List.set_cons_succ, List.getElem_toArray, List.getElem_cons_zero, List.getElem_cons_succ]
  refine' wpAnyH_take (i := 11) (v := _) rfl (by kernel_rfl) (by kernel_rfl) (by kernel_rfl) (fun _ _ _ h => h) (Or.inl ⟨by rfl, ?_⟩) (by assumption) ?_
  rotate_left 1
  · (intro w0 hSw; (try dsimp only at hSw); go_split_ands; go_simp; (try with_reducible rfl))
  try simp only [Act.put, List.setIfInBounds_toArray, List.set_cons_zero, List.set_cons_succ, List.getElem_toArray, List.getElem_cons_zero, List.getElem_cons_succ]
  refine wpAnyH_ready (rs := [12]) (by kernel_rfl) (by simp) ?_
  refine AllReadyH.cons rfl (fun K hK => ?_) AllReadyH.nil
  go_simp
  refine hK.out _ _ ?_ (fun hHeld => ?_)
  · exact ⟨HC4.out _ (HB3.out.keeps (((Keeps.refl [] w3).alloc _).drew) (by simp)), HB3.out.keeps (((Keeps.refl [] w3).alloc _).drew) (by simp)⟩
  clear hK K
  try simp only [Act.put, List.setIfInBounds_toArray, List.set_cons_zero, List.set_cons_succ, List.getElem_toArray, List.getElem_cons_zero, List.getElem_cons_succ]
  refine wpAnyH_ready (rs := [13]) (by kernel_rfl) (by simp) ?_
  refine AllReadyH.cons rfl (fun K hK => ?_) AllReadyH.nil
  go_simp
  refine hK.out _ _ ?_ (fun hHeld => ?_)
  · exact ⟨HC4.out _ (HB3.out.keeps (((Keeps.refl [] w3).alloc _).drew) (by simp)), HB3.out.keeps (((Keeps.refl [] w3).alloc _).drew) (by simp)⟩
  clear hK K
  try simp only [Act.put, List.setIfInBounds_toArray, List.set_cons_zero, List.set_cons_succ, List.getElem_toArray, List.getElem_cons_zero, List.getElem_cons_succ]
  refine wpAnyH_done (by kernel_rfl) ?_ _
  obtain ⟨w5, hw5⟩ : ∃ w5, w5 = (w3.alloc (.cells #[.int .i64 n4, .int .i64 v1, .int .i64 v2, .int .i64 v3, .int .i64 v4] 47 (0, 0))).drew := ⟨_, rfl⟩
  obtain ⟨g5, hg5⟩ : ∃ g5, g5 = w3.heap.size := ⟨_, rfl⟩
  have hs5 : SupAt w5 g5 ⟨n4, v1, v2, v3, v4⟩ := by rw [hw5]; exact heap_new_at hg5
  have hk5 : Keeps [] w3 w5 := by rw [hw5]; exact ((Keeps.refl _ _).alloc _).drew
  rw [← hw5, ← hg5]
  have HS5 := Lib.hid (HS3.out.keeps hk5 (by simp))
  have HK5 := Lib.hid (HK3.out.trans (G := []) hk5 (by simp))
  have HLD := Lib.hid hs5.load
  have CV := Lib.hid (valid_any (w := w5) ⟨n4, v1, v2, v3, v4⟩)
  have HT5 := Lib.hid hs5
  clear hw5 hg5 hs5 hk5 e4 hHeld
  obtain ⟨b, hb⟩ : ∃ b, b = (⟨n4, v1, v2, v3, v4⟩ : Sup).valid := ⟨_, rfl⟩
  rw [← hb] at CV
  have hE4 := HE3.out
  rw [← hb] at hE4
  clear hb HE3
  cases b with
  | false =>
    have HU := Lib.hid (show R = (53, zSup) by rw [hE4]; rfl)
    clear hE4
    go_wp2_with (first | (refine wl_load rfl 47 (.tmp 5) rfl ?_; refine ⟨_, _, HLD.out, ?_⟩; try simp only [Act.put, List.setIfInBounds_toArray, List.set_cons_zero, List.set_cons_succ, List.getElem_toArray, List.getElem_cons_zero, List.getElem_cons_succ]) | fail)
    refine CV.out.mono ?_
    rintro e w6 ⟨rfl, hk6⟩
    obtain ⟨st, ss⟩ := (HS5.out.keeps hk6 (by simp)).store zSup
    have ST := Lib.hid st
    have SS := Lib.hid ss
    have HK6 := Lib.hid (HK5.out.trans (G := []) hk6 (by simp))
    clear hk6 st ss
    go_wp2_with (first | (refine wl_store rfl 47 (.tmp 2) (.tmp 53) rfl ?_; refine ⟨_, ST.out, ?_⟩; try simp only [Act.put, List.setIfInBounds_toArray, List.set_cons_zero, List.set_cons_succ, List.getElem_toArray, List.getElem_cons_zero, List.getElem_cons_succ]))
    exact bodyPost_ret (results_sup2 rfl rfl rfl SS.out) rfl ⟨by rw [HU.out]; rfl, HK6.out.setCells (.inr HG0.out) _ _⟩
  | true =>
    have HU := Lib.hid (show R = (0, ⟨n4, v1, v2, v3, v4⟩) by rw [hE4]; rfl)
    clear hE4
    go_wp2_with (first | (refine wl_load rfl 47 (.tmp 5) rfl ?_; refine ⟨_, _, HLD.out, ?_⟩; try simp only [Act.put, List.setIfInBounds_toArray, List.set_cons_zero, List.set_cons_succ, List.getElem_toArray, List.getElem_cons_zero, List.getElem_cons_succ]) | fail)
    refine CV.out.mono ?_
    rintro e w6 ⟨rfl, hk6⟩
    have HLD6 := Lib.hid (HT5.out.keeps hk6 (by simp)).load
    obtain ⟨st, ss⟩ := (HS5.out.keeps hk6 (by simp)).store ⟨n4, v1, v2, v3, v4⟩
    have ST := Lib.hid st
    have SS := Lib.hid ss
    have HK6 := Lib.hid (HK5.out.trans (G := []) hk6 (by simp))
    clear hk6 st ss
    go_wp2_with (first | (refine wl_load rfl 47 (.tmp 5) rfl ?_; refine ⟨_, _, HLD6.out, ?_⟩; try simp only [Act.put, List.setIfInBounds_toArray, List.set_cons_zero, List.set_cons_succ, List.getElem_toArray, List.getElem_cons_zero, List.getElem_cons_succ]) | (refine wl_store rfl 47 (.tmp 2) (.tmp 54) rfl ?_; refine ⟨_, ST.out, ?_⟩; try simp only [Act.put, List.setIfInBounds_toArray, List.set_cons_zero, List.set_cons_succ, List.getElem_toArray, List.getElem_cons_zero, List.getElem_cons_succ]))
    exact bodyPost_ret (results_sup2 rfl rfl rfl SS.out) rfl ⟨by rw [HU.out]; rfl, HK6.out.setCells (.inr HG0.out) _ _⟩
end Go.Proofs.YtojlojdkhegbkaaDoor

/-
  Package frame: empty, newer.
-/
namespace Go.Proofs.YtojlojdkhegbkaaDoor
set_option linter.unusedVariables false
set_option linter.unusedSimpArgs false
open Go.RowKit

theorem wp_arrayAt {o : Oper} {a : Act} {w : World} {K : Act → World → Prop} {Q : Exit → Act → World → Prop} (t e : TypeId) (n : Nat) (x : Operand) (ho : o.op = .sliceToArrayPointer t x) (ht : Tryd.prog.underlying t = some (.array n e))
    {p : Option Addr} {m c : Nat} (hx : a.eval x = .slice p m c) (hm : n ≤ m) (h : K (a.put o.dst (.pointer p)) w) : o.wp Tryd.prog a w K Q := by
  unfold Oper.wp execOp
  simp [ho, hx, Instr.arrayAt, run_underlying ht, Nat.not_lt.2 hm, Result.andThen]
  exact h
theorem eqGuard_sector (op : BinOp) (x y : Operand) (xs ys : Array Value) (w : World) : (eqGuard op 162 x y (.agg xs) (.agg ys)).run Tryd.prog w = .ok () w := run_eqGuard_agg w op 162 x y xs ys (by kernel_rfl)
theorem zeroB_eq {L : List UInt8} {n : Nat} (h : L.length = n) : (L == List.replicate n 0) = zeroB L := by
  rw [Bool.eq_iff_iff, beq_iff_eq, List.eq_replicate_iff]
  unfold zeroB
  rw [Bool.not_eq_true', List.any_eq_false]
  simp [h]
set_option maxRecDepth 100000 in
set_option maxHeartbeats 800000 in
theorem empty_any {w : World} {v : Value} {l : List UInt8} (hv : BytesAt w v l) :
    Calls Tryd.prog 73 #[v] w fun e w' => e = .returned (.bool (emptyL l)) ∧ w = w' := by
  obtain ⟨a, c, rfl, hc, hm⟩ := hv.form
  unfold maxLen at hm
  obtain ⟨n, hn⟩ : ∃ n, n = l.length := ⟨_, rfl⟩
  obtain ⟨R, hR⟩ : ∃ R, R = emptyL l := ⟨_, rfl⟩
  rw [← hR]
  unfold emptyL at hR
  rw [← hn] at hc hR ⊢
  by_cases h256 : n = 256
  rotate_left 1
  · have n1 : ((n : Int) == 256) = false := by simp; omega
    have hu : R = false := by rw [hR]; simp [h256]
    subst hu
    clear hv hn hR h256
    go_enter Tryd.func73, Tryd.ntmps73
    go_wp2_with fail
    go_ret
    exact ⟨rfl, rfl⟩
  subst h256
  obtain ⟨gb, ob, rfl, hgb, hrb⟩ := hv.at (by omega)
  obtain ⟨L, hL⟩ : ∃ L, L = l.take 64 := ⟨_, rfl⟩
  have hl64 : L.length = 64 := by rw [hL, List.length_take]; omega
  have hr2 : w.rangeAt gb ob (L.map B) := fun j u hj => by
    refine hrb j u ?_
    rw [hL, List.getElem?_map, List.getElem?_take] at hj
    split at hj
    · rw [List.getElem?_map]; exact hj
    · cases hj
  have hR2 : R = zeroB L := by rw [hR, hL]; simp
  have HR2 := Lib.hid hr2
  have HSZ := Lib.hid (show (Tryd.prog.info? 162).map (·.size) = some (L.map B).length by rw [size_sector, List.length_map, hl64])
  have hq : ∀ w, (Op.equalIn 10000 162 (.agg (L.map B).toArray) (.agg #[.int .u8 0, .int .u8 0, .int .u8 0, .int .u8 0, .int .u8 0, .int .u8 0, .int .u8 0, .int .u8 0, .int .u8 0, .int .u8 0, .int .u8 0, .int .u8 0, .int .u8 0, .int .u8 0, .int .u8 0, .int .u8 0, .int .u8 0, .int .u8 0, .int .u8 0, .int .u8 0, .int .u8 0, .int .u8 0, .int .u8 0, .int .u8 0, .int .u8 0, .int .u8 0, .int .u8 0, .int .u8 0, .int .u8 0, .int .u8 0, .int .u8 0, .int .u8 0, .int .u8 0, .int .u8 0, .int .u8 0, .int .u8 0, .int .u8 0, .int .u8 0, .int .u8 0, .int .u8 0, .int .u8 0, .int .u8 0, .int .u8 0, .int .u8 0, .int .u8 0, .int .u8 0, .int .u8 0, .int .u8 0, .int .u8 0, .int .u8 0, .int .u8 0, .int .u8 0, .int .u8 0, .int .u8 0, .int .u8 0, .int .u8 0, .int .u8 0, .int .u8 0, .int .u8 0, .int .u8 0, .int .u8 0, .int .u8 0, .int .u8 0, .int .u8 0])).run Tryd.prog w = .ok R w := fun w => by
    have := run_equalIn_bytes w 9998 Tryd.underlying162 hl64 (List.length_replicate (n := 64) (a := (0 : UInt8)))
    rw [zeroB_eq hl64, ← hR2] at this
    exact this
  have hg := eqGuard_sector
  clear hv hn hR hL hl64 hr2 hR2 hrb hgb
  go_enter Tryd.func73, Tryd.ntmps73
  go_wp2_with (first | (refine Go.BigFrame.wpList_want (by rfl) fun K hK => wp_arrayAt 162 _ 64 (.tmp 8) rfl Tryd.underlying162 rfl (by omega) (hK _ _ ?_)) | (refine Go.BigFrame.wpList_want (by rfl) fun K hK => wp_load_mid 162 (.tmp 9) rfl gb ob (by rfl) (L.map B) _ HR2.out Tryd.underlying162 rfl HSZ.out (hK _ _ ?_)))
  go_ret
  exact ⟨rfl, rfl⟩
end Go.Proofs.YtojlojdkhegbkaaDoor
