/-
  append of bytes, none among them, to a slice of one's own.
-/
import Derived.Test.YtbjffjplpnnhoaaOwn
import Derived.Deep.Upon
namespace Go.Proofs.Ytbjffjplpnnhoaa
set_option linter.unusedVariables false
set_option linter.unusedSimpArgs false
open Go.RowKit

theorem run_append_none {w : World} {base : Nat} {v : Value} {n c : Nat} {xs : List Value} (hown : w.ownsRow base 5 1 v n xs) (ty : TypeId) :
    (Builtin.append_ #[29, 29] ty #[v, .slice none 0 c]).run Try.prog w = .ok v w := by
  obtain ⟨i0, hi0, hz0, hz1, hz2⟩ := info_parts info_u8
  rcases hown.2 with ⟨rfl, rfl⟩ | ⟨g, cap, cur, rfl, _, _, h, _⟩
  · simp [Builtin.append_, run_underlying Try.underlying29, sizeOf, typeInfo, hi0, storeCells, Builtin.lenOf, Builtin.firstCells, hz1]
  · simp [Builtin.append_, run_underlying Try.underlying29, sizeOf, typeInfo, hi0, h, storeCells, Builtin.lenOf, Builtin.firstCells, hz1]
/-- Bytes appended, none or more. -/
theorem run_append_bytes {w : World} {base : Nat} {v : Value} {n : Nat} {xs : List Value} (hown : w.ownsRow base 5 1 v n xs) {x : Value} {l : List UInt8} (hx : BytesAt w x l) (hb : n + l.length ≤ 1099511627776) (hbase : base ≤ w.heap.size) (ty : TypeId) :
    ∃ v' w', (Builtin.append_ #[29, 29] ty #[v, x]).run Try.prog w = .ok v' w' ∧ w'.ownsRow base 5 1 v' (n + l.length) (xs ++ l.map B) ∧ w.grownBy w' v.ownBlock := by
  obtain ⟨i0, hi0, hz0, hz1, hz2⟩ := info_parts info_u8
  rcases hx with ⟨rfl, a, c, rfl, _⟩ | ⟨g, o, cap, rfl, h1, h2, h3, h4⟩
  · cases a with
    | none => exact ⟨v, w, run_append_none hown ty, by simpa using hown, ⟨rfl, rfl, rfl, Nat.le_refl _, fun _ _ _ => rfl⟩⟩
    | some a =>
      obtain ⟨v', w', hr, ho, hg, _⟩ := run_append_own_at (P := Try.prog) w base 29 ty 5 i0 (.int .u8 0) 1 1 Try.underlying29 hi0 hz0 hz1 hz2 rfl (by omega) v n xs hown a 0 c [] rfl (by simp) (by simp) (by simp only [maxLen]; simp at hb; omega) (by simp at hb; omega) hbase
      exact ⟨v', w', hr, by simpa using ho, hg⟩
  · obtain ⟨v', w', hr, ho, hg, _⟩ := run_append_own_at (P := Try.prog) w base 29 ty 5 i0 (.int .u8 0) 1 1 Try.underlying29 hi0 hz0 hz1 hz2 rfl (by omega) v n xs hown ⟨g, o, none⟩ l.length cap (l.map B) (by simp) (fun j u hu => by rw [Addr.add_mid]; exact h4 j u hu) (B_one l) (by simp only [maxLen]; omega) (by omega) hbase
    exact ⟨v', w', hr, ho, hg⟩
theorem wp_append_bytes {o : Oper} {a : Act} {w : World} {K : Act → World → Prop} {Q : Exit → Act → World → Prop} (s x : Operand) (ho : o.op = .call { callee := .builtin .append, args := #[s, x], argTypes := #[29, 29] })
    (base : Nat) (v : Value) (n : Nat) (xs : List Value) (hs : a.eval s = v) (hown : w.ownsRow base 5 1 v n xs) (xv : Value) (l : List UInt8) (hxv : a.eval x = xv) (hx : BytesAt w xv l) (hb : n + l.length ≤ 1099511627776) (hbase : base ≤ w.heap.size)
    (h : ∀ v' w', w'.ownsRow base 5 1 v' (n + l.length) (xs ++ l.map B) → w.grownBy w' v.ownBlock → K (a.put o.dst v') w') : o.wp Try.prog a w K Q := by
  obtain ⟨v', w', hr, h1, h2⟩ := run_append_bytes hown hx hb hbase o.type
  unfold Oper.wp execOp
  simp only [ho, resolve, invoke, builtin, Sem.run_bind, Sem.run_pure, Result.andThen_ok, List.map_toArray, List.map_cons, List.map_nil, hs, hxv, hr]
  exact h v' w' h1 h2
theorem wpList_append_bytes {ops : Array Oper} {rest : List Oper} {o : Oper} {a : Act} {w : World} {Q : Exit → Act → World → Prop} (hgd : o.guard = none) (s x : Operand) (ho : o.op = .call { callee := .builtin .append, args := #[s, x], argTypes := #[29, 29] })
    (base : Nat) (v : Value) (n : Nat) (xs : List Value) (hs : a.eval s = v) (hown : w.ownsRow base 5 1 v n xs) (xv : Value) (l : List UInt8) (hxv : a.eval x = xv) (hx : BytesAt w xv l) (hb : n + l.length ≤ 1099511627776) (hbase : base ≤ w.heap.size)
    (h : ∀ v' w', w'.ownsRow base 5 1 v' (n + l.length) (xs ++ l.map B) → w.grownBy w' v.ownBlock → wpList Try.prog ops Q rest (a.put o.dst v') w') : wpList Try.prog ops Q (o :: rest) a w :=
  wpList_plain hgd fun _ hK => wp_append_bytes s x ho base v n xs hs hown xv l hxv hx hb hbase fun v' w' h1 h2 => hK _ _ (h v' w' h1 h2)
theorem step_append_bytes {ops : Array Oper} {o : Oper} {a : Act} {w : World} {K : Act → World → Prop} {Q : Exit → Act → World → Prop} {E : Prop} (hgd : o.guard = none) (s x : Operand) (ho : o.op = .call { callee := .builtin .append, args := #[s, x], argTypes := #[29, 29] })
    (base : Nat) (v : Value) (n : Nat) (xs : List Value) (hs : a.eval s = v) (hown : w.ownsRow base 5 1 v n xs) (xv : Value) (l : List UInt8) (hxv : a.eval x = xv) (hx : BytesAt w xv l) (hb : n + l.length ≤ 1099511627776) (hbase : base ≤ w.heap.size)
    (h : ∀ v' w', w'.ownsRow base 5 1 v' (n + l.length) (xs ++ l.map B) → w.grownBy w' v.ownBlock → K (a.put o.dst v') w') :
    if Region.wanted o (yielded ops a.tmps) = true then Oper.wp Try.prog o a w K Q else E := by
  have hw : Region.wanted o (yielded ops a.tmps) = true := by simp [Region.wanted, hgd]
  rw [if_pos hw]
  exact wp_append_bytes s x ho base v n xs hs hown xv l hxv hx hb hbase h
/-- A copy at a step of a region that draws its order. -/
theorem step_copy {ops : Array Oper} {o : Oper} {a : Act} {w w' : World} {K : Act → World → Prop} {Q : Exit → Act → World → Prop} {E : Prop} (hgd : o.guard = none) (d s : Operand) (ho : o.op = .call { callee := .builtin .copy, args := #[d, s], argTypes := #[29, 29] })
    (dv sv v : Value) (hd : a.eval d = dv) (hs : a.eval s = sv) (hr : ∀ ty, (Builtin.copy_ #[29, 29] ty #[dv, sv]).run Try.prog w = .ok v w') (h : K (a.put o.dst v) w') :
    if Region.wanted o (yielded ops a.tmps) = true then Oper.wp Try.prog o a w K Q else E := by
  have hw : Region.wanted o (yielded ops a.tmps) = true := by simp [Region.wanted, hgd]
  rw [if_pos hw]
  unfold Oper.wp execOp
  simp only [ho, resolve, invoke, builtin, Sem.run_bind, Sem.run_pure, Result.andThen_ok, List.map_toArray, List.map_cons, List.map_nil, hd, hs, hr]
  exact h
end Go.Proofs.Ytbjffjplpnnhoaa
