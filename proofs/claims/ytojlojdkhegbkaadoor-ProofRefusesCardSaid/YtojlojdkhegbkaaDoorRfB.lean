/-
  Lemmas of a claim, bundle B: XBase XOps XReg XRegC XLive XOwn XEq XDk XDkA XDkC XDkD XDkE XDkB XRing XPMap.
-/
import Derived.Test.YtojlojdkhegbkaaDoorRows
import Derived.WalkKit
import Derived.WalkSpells
import Derived.WalkLawsBesides
import Derived.BigQuiet
import Derived.Deep.QuietTactic
import Derived.Deep.RegionHeld3
import Derived.Deep.AppendLies
import Derived.Deep.MidRow
import Derived.Deep.WholeRow
import Derived.Deep.DrawnRows
import Derived.StillTailTactics
import Derived.Maps.OwnSet
import Derived.Maps.OwnOps
import Derived.Lib.Hide
import Derived.Laws.StructEq
/-
  General lemmas for the walks of this seat: what a call keeps (by blocks), bytes as cells, a map from int to int.
  They speak of no function of the program.
-/
namespace Go.Proofs.YtojlojdkhegbkaaDoor
set_option linter.unusedVariables false
set_option linter.unusedSimpArgs false
open Go.RowKit Go.ChangeMaps Go.MapKept
open Go.Maps (Keyed int_keyed keyOf_int_mk)

/-! ### what a call keeps -/
/-- Of what was there in w only the blocks of F may have turned in w'. -/
structure Keeps (F : List Nat) (w w' : World) : Prop where
  os : w'.os = w.os
  tape : w'.tape = w.tape
  output : w'.output = w.output
  size : w.heap.size ≤ w'.heap.size
  block : ∀ k, k < w.heap.size → k ∉ F → w'.heap[k]? = w.heap[k]?

namespace Keeps
variable {F G : List Nat} {a w w' w1 w2 : World}
theorem refl (F : List Nat) (w : World) : Keeps F w w := ⟨rfl, rfl, rfl, Nat.le_refl _, fun _ _ _ => rfl⟩
theorem trans (h : Keeps F w w1) (h1 : Keeps G w1 w2) (hs : ∀ k ∈ G, k ∈ F ∨ w.heap.size ≤ k) : Keeps F w w2 :=
  ⟨h1.os.trans h.os, h1.tape.trans h.tape, h1.output.trans h.output, Nat.le_trans h.size h1.size, fun k hk hn =>
    (h1.block k (Nat.lt_of_lt_of_le hk h.size) (fun hg => (hs k hg).elim hn (fun hle => by omega))).trans (h.block k hk hn)⟩
theorem mono (h : Keeps F w w') (hs : ∀ k ∈ F, k ∈ G ∨ w.heap.size ≤ k) : Keeps G w w' :=
  ⟨h.os, h.tape, h.output, h.size, fun k hk hn => h.block k hk (fun hf => (hs k hf).elim hn (fun hle => by omega))⟩
theorem drew (h : Keeps F a w) : Keeps F a w.drew := ⟨h.os, h.tape, h.output, h.size, h.block⟩
theorem drewN (h : Keeps F a w) (n : Nat) : Keeps F a (w.drewN n) := ⟨h.os, h.tape, h.output, h.size, h.block⟩
theorem alloc (h : Keeps F a w) (o : Obj) : Keeps F a (w.alloc o) :=
  ⟨h.os, h.tape, h.output, Nat.le_trans h.size (by simp), fun k hk hn => (Below.heap_alloc w o k (Nat.lt_of_lt_of_le hk h.size)).trans (h.block k hk hn)⟩
theorem setCell (h : Keeps F a w) {p : Addr} (hp : p.block ∈ F ∨ a.heap.size ≤ p.block) (u : Value) : Keeps F a (w.setCell p u) :=
  ⟨h.os, h.tape, h.output, by simpa [World.setCell] using h.size, fun k hk hn =>
    (Below.heap_setCell w p u k (fun e => by subst e; exact hp.elim hn (fun hle => by omega))).trans (h.block k hk hn)⟩
theorem grown {row : Option Nat} (h : Keeps F a w) (hg : w.grownBy w' row) (hr : ∀ k, row = some k → k ∈ F ∨ a.heap.size ≤ k) : Keeps F a w' :=
  ⟨hg.os.trans h.os, hg.tape.trans h.tape, hg.output.trans h.output, Nat.le_trans h.size hg.size, fun k hk hn =>
    (hg.block k (Nat.lt_of_lt_of_le hk h.size) (fun e => (hr k e.symm).elim hn (fun hle => by omega))).trans (h.block k hk hn)⟩
theorem below (h : Keeps F w w') {n : Nat} (hn : n ≤ w.heap.size) (hF : ∀ k ∈ F, n ≤ k) : Below n w w' :=
  ⟨h.os, h.tape, h.output, h.size, fun k hk => h.block k (by omega) (fun hf => by have := hF k hf; omega)⟩
theorem of_below {n : Nat} (h : Below n w w') (hF : ∀ k, n ≤ k → k < w.heap.size → k ∈ F) : Keeps F w w' :=
  ⟨h.os, h.tape, h.output, h.size, fun k hk hn => h.block k (by
    rcases Nat.lt_or_ge k n with hlt | hge
    · exact hlt
    · exact absurd (hF k hge hk) hn)⟩
end Keeps

theorem heap_setCells_other (b o k : Nat) (hk : k ≠ b) : ∀ (vs : List Value) (w : World), (w.setCells b o vs).heap[k]? = w.heap[k]? := by
  intro vs
  induction vs generalizing o with
  | nil => intro w; rfl
  | cons v vs ih => intro w; rw [World.setCells, ih]; exact Below.heap_setCell _ _ _ _ (by simpa using hk)
theorem size_setCells (b o : Nat) : ∀ (vs : List Value) (w : World), (w.setCells b o vs).heap.size = w.heap.size := by
  intro vs
  induction vs generalizing o with
  | nil => intro w; rfl
  | cons v vs ih => intro w; rw [World.setCells, ih]; simp [World.setCell]
theorem setCells_rest (b o : Nat) : ∀ (vs : List Value) (w : World), (w.setCells b o vs).os = w.os ∧ (w.setCells b o vs).tape = w.tape ∧ (w.setCells b o vs).output = w.output := by
  intro vs
  induction vs generalizing o with
  | nil => intro w; exact ⟨rfl, rfl, rfl⟩
  | cons v vs ih => intro w; rw [World.setCells]; exact ih _ _
theorem Keeps.setCells {F : List Nat} {a w : World} (h : Keeps F a w) {b : Nat} (hp : b ∈ F ∨ a.heap.size ≤ b) (o : Nat) (vs : List Value) : Keeps F a (w.setCells b o vs) :=
  ⟨(setCells_rest b o vs w).1.trans h.os, (setCells_rest b o vs w).2.1.trans h.tape, (setCells_rest b o vs w).2.2.trans h.output, by rw [size_setCells]; exact h.size,
    fun k hk hn => (heap_setCells_other b o k (fun e => by subst e; exact hp.elim hn (fun hle => by omega)) vs w).trans (h.block k hk hn)⟩

/-- The block behind a row of stores. -/
theorem heap_setCells_same (b : Nat) (t : TypeId) : ∀ (vs : List Value) (o : Nat) (w : World) (cs : List Value), w.heap[b]? = some (.cells cs.toArray t (0, 0)) → o + vs.length ≤ cs.length →
    (w.setCells b o vs).heap[b]? = some (.cells (cs.take o ++ vs ++ cs.drop (o + vs.length)).toArray t (0, 0)) := by
  intro vs
  induction vs with
  | nil => intro o w cs h _; simpa [World.setCells] using h
  | cons v vs ih =>
    intro o w cs h hl
    simp only [List.length_cons] at hl
    rw [World.setCells]
    have h1 := heap_setCell_same w b o cs.toArray t v h
    rw [List.setIfInBounds_toArray] at h1
    rw [ih (o + 1) _ _ h1 (by simp; omega)]
    congr 3
    have e1 : (cs.set o v).take (o + 1) = cs.take o ++ [v] := by
      rw [List.take_succ_eq_append_getElem (by simp; omega)]
      simp [List.take_set]
      exact List.set_eq_of_length_le (by simp; omega)
    rw [e1, List.drop_set_of_lt (by omega)]
    simp only [List.length_cons, List.append_assoc, List.cons_append, List.nil_append]
    congr 4
    omega

/-! ### bytes -/
/-- A byte as a cell. -/
def B (c : UInt8) : Value := .int .u8 c.toNat
theorem B_one (l : List UInt8) : ∀ v ∈ l.map B, v.oneCell' = true := by
  intro v hv
  obtain ⟨c, _, rfl⟩ := List.mem_map.1 hv
  rfl
theorem B_inj {a b : UInt8} (h : B a = B b) : a = b := by
  simp only [B, Value.int.injEq, true_and] at h
  exact UInt8.toNat_inj.1 (by omega)
theorem map_B_inj {a b : List UInt8} (h : a.map B = b.map B) : a = b := List.map_inj_right (fun _ _ e => B_inj e) |>.1 h

/-- v is a slice of bytes that reads as l. -/
def BytesAt (w : World) (v : Value) (l : List UInt8) : Prop :=
  (l = [] ∧ ∃ a c, v = .slice a 0 c ∧ c ≤ maxLen) ∨ ∃ g o cap, v = .slice (some ⟨g, o, none⟩) l.length cap ∧ l.length ≤ cap ∧ cap ≤ maxLen ∧ g < w.heap.size ∧ w.rangeAt g o (l.map B)
theorem BytesAt_nil (w : World) : BytesAt w (.slice none 0 0) [] := .inl ⟨rfl, none, 0, rfl, by simp [maxLen]⟩
/-- The block that a slice's elements lie in, if it has some. -/
def _root_.Go.Value.elemBlock : Value → Option Nat
  | .slice (some a) (_ + 1) _ => some a.block
  | _ => none

theorem rangeAt_of_heap {w w' : World} {g o : Nat} {cs : List Value} (h : w.rangeAt g o cs) (hb : w'.heap[g]? = w.heap[g]?) : w'.rangeAt g o cs :=
  fun j v hv => by rw [World.cell?_of_block (w := w) (w' := w') (a := ⟨g, o + j, none⟩) hb]; exact h j v hv
theorem there_of_heap {w w' : World} {g o n : Nat} (h : w.there g o n) (hb : w'.heap[g]? = w.heap[g]?) : w'.there g o n :=
  fun j hj => by rw [World.cell?_of_block (w := w) (w' := w') (a := ⟨g, o + j, none⟩) hb, World.frozen?_of_block (w := w) (w' := w') (a := ⟨g, o + j, none⟩) hb]; exact h j hj

theorem BytesAt.of_heap {w w' : World} {v : Value} {l : List UInt8} (h : BytesAt w v l) (hs : w.heap.size ≤ w'.heap.size) (hd : ∀ k, v.elemBlock = some k → k < w.heap.size → w'.heap[k]? = w.heap[k]?) : BytesAt w' v l := by
  rcases h with h | ⟨g, o, cap, rfl, h1, h2, h3, h4⟩
  · exact .inl h
  · match l with
    | [] => exact .inl ⟨rfl, _, _, rfl, h2⟩
    | x :: l => exact .inr ⟨g, o, cap, rfl, h1, h2, Nat.lt_of_lt_of_le h3 hs, rangeAt_of_heap h4 (hd g rfl h3)⟩
theorem BytesAt.keeps {F : List Nat} {w w' : World} {v : Value} {l : List UInt8} (h : BytesAt w v l) (hk : Keeps F w w') (hd : ∀ k, v.elemBlock = some k → k ∉ F) : BytesAt w' v l :=
  h.of_heap hk.size (fun k hk' hlt => hk.block k hlt (hd k hk'))
theorem BytesAt.below {n : Nat} {w w' : World} {v : Value} {l : List UInt8} (h : BytesAt w v l) (hk : Below n w w') (hd : ∀ k, v.elemBlock = some k → k < n) : BytesAt w' v l :=
  h.of_heap hk.size (fun k hk' _ => hk.block k (hd k hk'))

/-! ### cells behind stores -/
theorem cell_set_off {w : World} {b i j : Nat} (v : Value) (h : j ≠ i) : (w.setCell ⟨b, i, none⟩ v).cell? ⟨b, j, none⟩ = w.cell? ⟨b, j, none⟩ :=
  World.cell?_setCell_other w _ _ v (fun e => h (congrArg Addr.off e).symm)
theorem cell_set_far {w : World} {b c i j : Nat} (v : Value) (h : c ≠ b) : (w.setCell ⟨b, i, none⟩ v).cell? ⟨c, j, none⟩ = w.cell? ⟨c, j, none⟩ :=
  World.cell?_setCell_other w _ _ v (fun e => h (congrArg Addr.block e).symm)

theorem heap_new_at {w : World} {o : Obj} {n : Nat} (hn : n = w.heap.size) : (w.alloc o).heap[n]? = some o := by subst hn; exact heap_alloc_new w o
theorem heap_old_at {w : World} {o : Obj} {n : Nat} (hn : n < w.heap.size) : (w.alloc o).heap[n]? = w.heap[n]? := Below.heap_alloc w o n hn

theorem rangeAt_all {w : World} {b : Nat} {cs : List Value} {t : TypeId} {fr : Nat × Nat} (h : w.heap[b]? = some (.cells cs.toArray t fr)) : w.rangeAt b 0 cs := fun j v hv => by
  rw [Nat.zero_add, cell_of_row w b j _ _ _ h]; simpa using hv
theorem rangeAt_part {w : World} {b : Nat} {xs ys zs : List Value} {t : TypeId} {fr : Nat × Nat} (h : w.heap[b]? = some (.cells (xs ++ ys ++ zs).toArray t fr)) : w.rangeAt b xs.length ys := fun j v hv => by
  rw [cell_of_row w b _ _ _ _ h]
  have hj := (List.getElem?_eq_some_iff.1 hv).1
  simp only [List.getElem?_toArray]
  rw [List.getElem?_append_left (by simp; omega), List.getElem?_append_right (by omega)]
  simpa using hv
theorem there_all {w : World} {b : Nat} {cs : List Value} {t : TypeId} (h : w.heap[b]? = some (.cells cs.toArray t (0, 0))) (o n : Nat) (ho : o + n ≤ cs.length) : w.there b o n := fun j hj => by
  refine ⟨?_, frozen_of_row w b _ _ _ h⟩
  rw [cell_of_row w b _ _ _ _ h]
  simp
  omega

/-- A row of one value over and over. -/
theorem madeCells_same (k : Nat) (v : Value) (n : Nat) (hk : 0 < k) : madeCells (Array.replicate k v) n = (List.replicate n v).toArray := by
  apply Array.ext_getElem?
  intro j
  by_cases hj : j < n
  · have hm : j % k < k := Nat.mod_lt _ hk
    simp [madeCells, hj, hm]
  · simp [madeCells, hj]

/-! ### a map from int to int -/
/-- The map m of at most n entries holds under each int k what f says. -/
def IMap (P : Program) (w : World) (ti : TypeId) (b n : Nat) (f : Int → Option Int) : Prop :=
  ∃ D : DataW Unit, w.ownsMap P ti (plainElem P ti) b n D ∧ ∀ k, (Lit.int .i64 k).wf = true → Maps.has D (.int .i64 k) = (f k).isSome ∧ ∀ z, D.atKey (.int .i64 k) z = match f k with | some v => .lit (.int .i64 v) | none => z

section
variable {P : Program} {w w' : World} {ti tm : TypeId} {b n : Nat} {f : Int → Option Int}
theorem IMap.lt (h : IMap P w ti b n f) : b < w.heap.size := by obtain ⟨D, h, _⟩ := h; exact h.lt
theorem IMap.keep (h : IMap P w ti b n f) (hb : w'.heap[b]? = w.heap[b]?) : IMap P w' ti b n f := by
  obtain ⟨D, ⟨es, clock, h1, h2⟩, h3⟩ := h
  exact ⟨D, ⟨es, clock, hb.trans h1, h2⟩, h3⟩
theorem IMap.mono {n' : Nat} (h : IMap P w ti b n f) (hn : n ≤ n') : IMap P w ti b n' f := by
  obtain ⟨D, h, h3⟩ := h
  exact ⟨D, h.mono hn, h3⟩
theorem IMap_empty {es : Array MapEntry} (clock : Nat) (he : es = #[]) (hb : w.heap[b]? = some (.map es clock)) : IMap P w ti b 0 (fun _ => none) := by
  subst he
  refine ⟨.map [], ⟨#[], clock, hb, ⟨by simp, stamped_empty clock, by simp⟩, Nat.le_refl _, rfl⟩, fun k _ => ⟨rfl, fun z => rfl⟩⟩
theorem IMap.look (h : IMap P w ti b n f) (hi : P.underlying ti = some (.int .i64)) (ht : P.underlying tm = some (.map ti ti)) (hz : (zeroValue ti).run P w = .ok (.int .i64 0) w) {k : Int} (hk : (Lit.int .i64 k).wf = true) :
    (Instr.lookup tm (.map (some b)) (.int .i64 k) true).run P w = .ok (.tuple #[.int .i64 ((f k).getD 0), .bool (f k).isSome]) w := by
  obtain ⟨D, h, h3⟩ := h
  obtain ⟨v, ps, hrun, hv⟩ := h.look_ok (int_keyed hi) ht hz (plainElem_int hi (by decide)) (keyOf_int_mk hi hk)
  rw [hrun, (h3 k hk).1]
  obtain ⟨c, rfl, hc, _⟩ := plainElem_int_inv hi hv
  have e := congrArg Prod.fst hc
  simp only [(h3 k hk).2] at e
  cases hf : f k with
  | none => simp [hf] at e; simp [e]
  | some x => simp [hf] at e; simp [e]
theorem IMap.put (h : IMap P w ti b n f) (hi : P.underlying ti = some (.int .i64)) (ht : P.underlying tm = some (.map ti ti)) (hn : n < maxLen) {k v : Int} (hk : (Lit.int .i64 k).wf = true) (hv : (Lit.int .i64 v).wf = true) :
    ∃ w', (Instr.mapUpdate tm (.map (some b)) (.int .i64 k) (.int .i64 v)).run P w = .ok () w' ∧ IMap P w' ti b (n + 1) (fun j => if j = k then some v else f j) ∧ w.grownBy w' (some b) ∧ w'.heap.size = w.heap.size := by
  obtain ⟨D, h, h3⟩ := h
  obtain ⟨w', hrun, hown, hturn⟩ := h.store (int_keyed hi) ht hn (keyOf_int_mk hi hk) (plainElem_int hi hv)
  have hs : w'.heap.size = w.heap.size := by
    obtain ⟨_, _, _, _, _, rfl⟩ := hturn
    simp [setBlock]
  refine ⟨w', hrun, ⟨_, hown, fun j hj => ?_⟩, hturn.grown, hs⟩
  have hM := h.isMap
  by_cases e : j = k
  · subst e
    refine ⟨?_, fun z => ?_⟩
    · simp only [if_true]
      exact Maps.has_put_same hM (by first | exact ⟨_, _, rfl, hk⟩ | simp [WideAt.IsKeyLit]) _
    · simp only [if_true]
      exact Maps.atKey_put_same hM (by first | exact ⟨_, _, rfl, hk⟩ | simp [WideAt.IsKeyLit]) _ _
  · have hne : (Lit.int .i64 j) ≠ .int .i64 k := fun he => e (by simpa using he)
    refine ⟨?_, fun z => ?_⟩
    · rw [Maps.has_put_other hne]; simp only [if_neg e]; exact (h3 j hj).1
    · rw [Maps.atKey_put_other hne]; simp only [if_neg e]; exact (h3 j hj).2 z
theorem IMap.clear {tk te : TypeId} (h : IMap P w ti b n f) (ht : P.underlying tm = some (.map tk te)) :
    ∃ w', (∀ ty, (Builtin.clear_ #[tm] ty #[.map (some b)]).run P w = .ok (.tuple #[]) w') ∧ IMap P w' ti b 0 (fun _ => none) ∧ w.grownBy w' (some b) ∧ w'.heap.size = w.heap.size := by
  obtain ⟨D, ⟨es, clock, h1, _⟩, _⟩ := h
  have hr : ∀ ty, (Builtin.clear_ #[tm] ty #[.map (some b)]).run P w = .ok (.tuple #[]) (setBlock w b (.map #[] clock)) := by
    intro ty
    simp [Builtin.clear_, run_underlying ht, MapKept.run_getObj_map h1, Result.andThen, setObj, Sem.run, h1, setBlock]
  refine ⟨setBlock w b (.map #[] clock), hr, IMap_empty clock rfl (heap_setBlock_same h1 _), ⟨rfl, rfl, rfl, by simp [setBlock], fun i _ hi => heap_setBlock_other h1 _ (fun e => hi (by rw [e]))⟩, by simp [setBlock]⟩
end

end Go.Proofs.YtojlojdkhegbkaaDoor

/-
  One law an operation: the operation by the equation of its run. At 'Oper.wp' (wp_..), at a plain region's list (wl_..), at a step of a region that draws (st_..).
-/
namespace Go.Proofs.YtojlojdkhegbkaaDoor
set_option linter.unusedVariables false
set_option linter.unusedSimpArgs false
section
variable {P : Program} {ops : Array Oper} {rest : List Oper} {o : Oper} {a : Act} {w : World} {K : Act → World → Prop} {Q : Exit → Act → World → Prop} {E : Prop}
theorem wp_alloc (t : TypeId) (ho : o.op = .alloc t) (h : ∃ v w', (Instr.alloc t true (.tuple #[])).run P w = .ok v w' ∧ K (a.put o.dst v) w') : o.wp P a w K Q := by
  obtain ⟨v, w', hrun, h⟩ := h
  unfold Oper.wp execOp
  simp only [ho, Sem.run_bind, Sem.run_pure, Result.andThen_ok] at hrun ⊢
  simp only [hrun, Result.andThen_ok]
  exact h
theorem wl_alloc (hg : o.guard = none) (t : TypeId) (ho : o.op = .alloc t) (h : ∃ v w', (Instr.alloc t true (.tuple #[])).run P w = .ok v w' ∧ wpList P ops Q rest (a.put o.dst v) w') : wpList P ops Q (o :: rest) a w := by
  obtain ⟨v, w', hrun, h⟩ := h
  exact wpList_plain hg fun _ hK => wp_alloc t ho ⟨v, w', hrun, hK _ _ h⟩
theorem st_alloc (hg : o.guard = none) (t : TypeId) (ho : o.op = .alloc t) (h : ∃ v w', (Instr.alloc t true (.tuple #[])).run P w = .ok v w' ∧ K (a.put o.dst v) w') : if Region.wanted o (yielded ops a.tmps) = true then o.wp P a w K Q else E := by
  rw [if_pos (by simp [Region.wanted, hg])]
  exact wp_alloc t ho h
theorem wp_box (t : TypeId) (x : Operand) (ho : o.op = .box t x) (h : ∃ v w', (Instr.box t (a.eval x)).run P w = .ok v w' ∧ K (a.put o.dst v) w') : o.wp P a w K Q := by
  obtain ⟨v, w', hrun, h⟩ := h
  unfold Oper.wp execOp
  simp only [ho, Sem.run_bind, Sem.run_pure, Result.andThen_ok] at hrun ⊢
  simp only [hrun, Result.andThen_ok]
  exact h
theorem wl_box (hg : o.guard = none) (t : TypeId) (x : Operand) (ho : o.op = .box t x) (h : ∃ v w', (Instr.box t (a.eval x)).run P w = .ok v w' ∧ wpList P ops Q rest (a.put o.dst v) w') : wpList P ops Q (o :: rest) a w := by
  obtain ⟨v, w', hrun, h⟩ := h
  exact wpList_plain hg fun _ hK => wp_box t x ho ⟨v, w', hrun, hK _ _ h⟩
theorem st_box (hg : o.guard = none) (t : TypeId) (x : Operand) (ho : o.op = .box t x) (h : ∃ v w', (Instr.box t (a.eval x)).run P w = .ok v w' ∧ K (a.put o.dst v) w') : if Region.wanted o (yielded ops a.tmps) = true then o.wp P a w K Q else E := by
  rw [if_pos (by simp [Region.wanted, hg])]
  exact wp_box t x ho h
theorem wp_build (t : TypeId) (ps : Array (Nat × Operand)) (vs : Array (Nat × Value)) (ho : o.op = .build t ps) (hvs : (ps.map fun p => (p.1, a.eval p.2)) = vs) (h : ∃ v w', (Instr.build t vs).run P w = .ok v w' ∧ K (a.put o.dst v) w') : o.wp P a w K Q := by
  obtain ⟨v, w', hrun, h⟩ := h
  subst hvs
  unfold Oper.wp execOp
  simp only [ho, Sem.run_bind, Sem.run_pure, Result.andThen_ok] at hrun ⊢
  simp only [hrun, Result.andThen_ok]
  exact h
theorem wl_build (hg : o.guard = none) (t : TypeId) (ps : Array (Nat × Operand)) (vs : Array (Nat × Value)) (ho : o.op = .build t ps) (hvs : (ps.map fun p => (p.1, a.eval p.2)) = vs) (h : ∃ v w', (Instr.build t vs).run P w = .ok v w' ∧ wpList P ops Q rest (a.put o.dst v) w') : wpList P ops Q (o :: rest) a w := by
  obtain ⟨v, w', hrun, h⟩ := h
  exact wpList_plain hg fun _ hK => wp_build t ps vs ho hvs ⟨v, w', hrun, hK _ _ h⟩
theorem st_build (hg : o.guard = none) (t : TypeId) (ps : Array (Nat × Operand)) (vs : Array (Nat × Value)) (ho : o.op = .build t ps) (hvs : (ps.map fun p => (p.1, a.eval p.2)) = vs) (h : ∃ v w', (Instr.build t vs).run P w = .ok v w' ∧ K (a.put o.dst v) w') : if Region.wanted o (yielded ops a.tmps) = true then o.wp P a w K Q else E := by
  rw [if_pos (by simp [Region.wanted, hg])]
  exact wp_build t ps vs ho hvs h
theorem wp_buildSlice (t : TypeId) (n : Nat) (ps : Array (Nat × Operand)) (vs : Array (Nat × Value)) (ho : o.op = .buildSlice t n ps) (hvs : (ps.map fun p => (p.1, a.eval p.2)) = vs) (h : ∃ v w', (Instr.buildSlice t n vs).run P w = .ok v w' ∧ K (a.put o.dst v) w') : o.wp P a w K Q := by
  obtain ⟨v, w', hrun, h⟩ := h
  subst hvs
  unfold Oper.wp execOp
  simp only [ho, Sem.run_bind, Sem.run_pure, Result.andThen_ok] at hrun ⊢
  simp only [hrun, Result.andThen_ok]
  exact h
theorem wl_buildSlice (hg : o.guard = none) (t : TypeId) (n : Nat) (ps : Array (Nat × Operand)) (vs : Array (Nat × Value)) (ho : o.op = .buildSlice t n ps) (hvs : (ps.map fun p => (p.1, a.eval p.2)) = vs) (h : ∃ v w', (Instr.buildSlice t n vs).run P w = .ok v w' ∧ wpList P ops Q rest (a.put o.dst v) w') : wpList P ops Q (o :: rest) a w := by
  obtain ⟨v, w', hrun, h⟩ := h
  exact wpList_plain hg fun _ hK => wp_buildSlice t n ps vs ho hvs ⟨v, w', hrun, hK _ _ h⟩
theorem st_buildSlice (hg : o.guard = none) (t : TypeId) (n : Nat) (ps : Array (Nat × Operand)) (vs : Array (Nat × Value)) (ho : o.op = .buildSlice t n ps) (hvs : (ps.map fun p => (p.1, a.eval p.2)) = vs) (h : ∃ v w', (Instr.buildSlice t n vs).run P w = .ok v w' ∧ K (a.put o.dst v) w') : if Region.wanted o (yielded ops a.tmps) = true then o.wp P a w K Q else E := by
  rw [if_pos (by simp [Region.wanted, hg])]
  exact wp_buildSlice t n ps vs ho hvs h
theorem wp_load (t : TypeId) (x : Operand) (ho : o.op = .load t x) (h : ∃ v w', (Instr.loadAt t (a.eval x)).run P w = .ok v w' ∧ K (a.put o.dst v) w') : o.wp P a w K Q := by
  obtain ⟨v, w', hrun, h⟩ := h
  unfold Oper.wp execOp
  simp only [ho, Sem.run_bind, Sem.run_pure, Result.andThen_ok] at hrun ⊢
  simp only [hrun, Result.andThen_ok]
  exact h
theorem wl_load (hg : o.guard = none) (t : TypeId) (x : Operand) (ho : o.op = .load t x) (h : ∃ v w', (Instr.loadAt t (a.eval x)).run P w = .ok v w' ∧ wpList P ops Q rest (a.put o.dst v) w') : wpList P ops Q (o :: rest) a w := by
  obtain ⟨v, w', hrun, h⟩ := h
  exact wpList_plain hg fun _ hK => wp_load t x ho ⟨v, w', hrun, hK _ _ h⟩
theorem st_load (hg : o.guard = none) (t : TypeId) (x : Operand) (ho : o.op = .load t x) (h : ∃ v w', (Instr.loadAt t (a.eval x)).run P w = .ok v w' ∧ K (a.put o.dst v) w') : if Region.wanted o (yielded ops a.tmps) = true then o.wp P a w K Q else E := by
  rw [if_pos (by simp [Region.wanted, hg])]
  exact wp_load t x ho h
theorem wp_store (t : TypeId) (x y : Operand) (ho : o.op = .store t x y) (h : ∃ w', (Instr.storeAt t (a.eval x) (a.eval y)).run P w = .ok () w' ∧ K (a.put o.dst undef) w') : o.wp P a w K Q := by
  obtain ⟨w', hrun, h⟩ := h
  unfold Oper.wp execOp
  simp only [ho, Sem.run_bind, Sem.run_pure, Result.andThen_ok] at hrun ⊢
  simp only [hrun, Result.andThen_ok]
  exact h
theorem wl_store (hg : o.guard = none) (t : TypeId) (x y : Operand) (ho : o.op = .store t x y) (h : ∃ w', (Instr.storeAt t (a.eval x) (a.eval y)).run P w = .ok () w' ∧ wpList P ops Q rest (a.put o.dst undef) w') : wpList P ops Q (o :: rest) a w := by
  obtain ⟨w', hrun, h⟩ := h
  exact wpList_plain hg fun _ hK => wp_store t x y ho ⟨w', hrun, hK _ _ h⟩
theorem st_store (hg : o.guard = none) (t : TypeId) (x y : Operand) (ho : o.op = .store t x y) (h : ∃ w', (Instr.storeAt t (a.eval x) (a.eval y)).run P w = .ok () w' ∧ K (a.put o.dst undef) w') : if Region.wanted o (yielded ops a.tmps) = true then o.wp P a w K Q else E := by
  rw [if_pos (by simp [Region.wanted, hg])]
  exact wp_store t x y ho h
theorem wp_makeSlice (t : TypeId) (l c : Operand) (ho : o.op = .makeSlice t l c) (h : ∃ v w', (Instr.makeSlice t (a.eval l) (a.eval c)).run P w = .ok v w' ∧ K (a.put o.dst v) w') : o.wp P a w K Q := by
  obtain ⟨v, w', hrun, h⟩ := h
  unfold Oper.wp execOp
  simp only [ho, Sem.run_bind, Sem.run_pure, Result.andThen_ok] at hrun ⊢
  simp only [hrun, Result.andThen_ok]
  exact h
theorem wl_makeSlice (hg : o.guard = none) (t : TypeId) (l c : Operand) (ho : o.op = .makeSlice t l c) (h : ∃ v w', (Instr.makeSlice t (a.eval l) (a.eval c)).run P w = .ok v w' ∧ wpList P ops Q rest (a.put o.dst v) w') : wpList P ops Q (o :: rest) a w := by
  obtain ⟨v, w', hrun, h⟩ := h
  exact wpList_plain hg fun _ hK => wp_makeSlice t l c ho ⟨v, w', hrun, hK _ _ h⟩
theorem st_makeSlice (hg : o.guard = none) (t : TypeId) (l c : Operand) (ho : o.op = .makeSlice t l c) (h : ∃ v w', (Instr.makeSlice t (a.eval l) (a.eval c)).run P w = .ok v w' ∧ K (a.put o.dst v) w') : if Region.wanted o (yielded ops a.tmps) = true then o.wp P a w K Q else E := by
  rw [if_pos (by simp [Region.wanted, hg])]
  exact wp_makeSlice t l c ho h
theorem wp_slice (t : TypeId) (x : Operand) (lo hi mx : Option Operand) (ho : o.op = .slice t x lo hi mx) (h : ∃ v w', (Instr.sliceAt t (a.eval x) (lo.map a.eval) (hi.map a.eval) (mx.map a.eval)).run P w = .ok v w' ∧ K (a.put o.dst v) w') : o.wp P a w K Q := by
  obtain ⟨v, w', hrun, h⟩ := h
  unfold Oper.wp execOp
  simp only [ho, Sem.run_bind, Sem.run_pure, Result.andThen_ok] at hrun ⊢
  simp only [hrun, Result.andThen_ok]
  exact h
theorem wl_slice (hg : o.guard = none) (t : TypeId) (x : Operand) (lo hi mx : Option Operand) (ho : o.op = .slice t x lo hi mx) (h : ∃ v w', (Instr.sliceAt t (a.eval x) (lo.map a.eval) (hi.map a.eval) (mx.map a.eval)).run P w = .ok v w' ∧ wpList P ops Q rest (a.put o.dst v) w') : wpList P ops Q (o :: rest) a w := by
  obtain ⟨v, w', hrun, h⟩ := h
  exact wpList_plain hg fun _ hK => wp_slice t x lo hi mx ho ⟨v, w', hrun, hK _ _ h⟩
theorem st_slice (hg : o.guard = none) (t : TypeId) (x : Operand) (lo hi mx : Option Operand) (ho : o.op = .slice t x lo hi mx) (h : ∃ v w', (Instr.sliceAt t (a.eval x) (lo.map a.eval) (hi.map a.eval) (mx.map a.eval)).run P w = .ok v w' ∧ K (a.put o.dst v) w') : if Region.wanted o (yielded ops a.tmps) = true then o.wp P a w K Q else E := by
  rw [if_pos (by simp [Region.wanted, hg])]
  exact wp_slice t x lo hi mx ho h
theorem wp_binOp (b : BinOp) (t : TypeId) (x y : Operand) (t2 : TypeId) (ho : o.op = .binOp b t x y t2) (h : ∃ v w', (do eqGuard b t x y (a.eval x) (a.eval y); binOp b t (a.eval x) (a.eval y)).run P w = .ok v w' ∧ K (a.put o.dst v) w') : o.wp P a w K Q := by
  obtain ⟨v, w', hrun, h⟩ := h
  unfold Oper.wp execOp
  simp only [ho, Sem.run_bind, Sem.run_pure, Result.andThen_ok] at hrun ⊢
  simp only [hrun, Result.andThen_ok]
  exact h
theorem wl_binOp (hg : o.guard = none) (b : BinOp) (t : TypeId) (x y : Operand) (t2 : TypeId) (ho : o.op = .binOp b t x y t2) (h : ∃ v w', (do eqGuard b t x y (a.eval x) (a.eval y); binOp b t (a.eval x) (a.eval y)).run P w = .ok v w' ∧ wpList P ops Q rest (a.put o.dst v) w') : wpList P ops Q (o :: rest) a w := by
  obtain ⟨v, w', hrun, h⟩ := h
  exact wpList_plain hg fun _ hK => wp_binOp b t x y t2 ho ⟨v, w', hrun, hK _ _ h⟩
theorem st_binOp (hg : o.guard = none) (b : BinOp) (t : TypeId) (x y : Operand) (t2 : TypeId) (ho : o.op = .binOp b t x y t2) (h : ∃ v w', (do eqGuard b t x y (a.eval x) (a.eval y); binOp b t (a.eval x) (a.eval y)).run P w = .ok v w' ∧ K (a.put o.dst v) w') : if Region.wanted o (yielded ops a.tmps) = true then o.wp P a w K Q else E := by
  rw [if_pos (by simp [Region.wanted, hg])]
  exact wp_binOp b t x y t2 ho h
theorem wp_convert (s d : TypeId) (x : Operand) (ho : o.op = .convert s d x) (h : ∃ v w', (convert s d (a.eval x)).run P w = .ok v w' ∧ K (a.put o.dst v) w') : o.wp P a w K Q := by
  obtain ⟨v, w', hrun, h⟩ := h
  unfold Oper.wp execOp
  simp only [ho, Sem.run_bind, Sem.run_pure, Result.andThen_ok] at hrun ⊢
  simp only [hrun, Result.andThen_ok]
  exact h
theorem wl_convert (hg : o.guard = none) (s d : TypeId) (x : Operand) (ho : o.op = .convert s d x) (h : ∃ v w', (convert s d (a.eval x)).run P w = .ok v w' ∧ wpList P ops Q rest (a.put o.dst v) w') : wpList P ops Q (o :: rest) a w := by
  obtain ⟨v, w', hrun, h⟩ := h
  exact wpList_plain hg fun _ hK => wp_convert s d x ho ⟨v, w', hrun, hK _ _ h⟩
theorem st_convert (hg : o.guard = none) (s d : TypeId) (x : Operand) (ho : o.op = .convert s d x) (h : ∃ v w', (convert s d (a.eval x)).run P w = .ok v w' ∧ K (a.put o.dst v) w') : if Region.wanted o (yielded ops a.tmps) = true then o.wp P a w K Q else E := by
  rw [if_pos (by simp [Region.wanted, hg])]
  exact wp_convert s d x ho h
theorem wp_index (t : TypeId) (x y : Operand) (ho : o.op = .index t x y) (h : ∃ v w', (Instr.index t (a.eval x) (a.eval y)).run P w = .ok v w' ∧ K (a.put o.dst v) w') : o.wp P a w K Q := by
  obtain ⟨v, w', hrun, h⟩ := h
  unfold Oper.wp execOp
  simp only [ho, Sem.run_bind, Sem.run_pure, Result.andThen_ok] at hrun ⊢
  simp only [hrun, Result.andThen_ok]
  exact h
theorem wl_index (hg : o.guard = none) (t : TypeId) (x y : Operand) (ho : o.op = .index t x y) (h : ∃ v w', (Instr.index t (a.eval x) (a.eval y)).run P w = .ok v w' ∧ wpList P ops Q rest (a.put o.dst v) w') : wpList P ops Q (o :: rest) a w := by
  obtain ⟨v, w', hrun, h⟩ := h
  exact wpList_plain hg fun _ hK => wp_index t x y ho ⟨v, w', hrun, hK _ _ h⟩
theorem st_index (hg : o.guard = none) (t : TypeId) (x y : Operand) (ho : o.op = .index t x y) (h : ∃ v w', (Instr.index t (a.eval x) (a.eval y)).run P w = .ok v w' ∧ K (a.put o.dst v) w') : if Region.wanted o (yielded ops a.tmps) = true then o.wp P a w K Q else E := by
  rw [if_pos (by simp [Region.wanted, hg])]
  exact wp_index t x y ho h
theorem wp_field (t : TypeId) (x : Operand) (f : Nat) (ho : o.op = .field t x f) (h : ∃ v w', (Instr.field t (a.eval x) f).run P w = .ok v w' ∧ K (a.put o.dst v) w') : o.wp P a w K Q := by
  obtain ⟨v, w', hrun, h⟩ := h
  unfold Oper.wp execOp
  simp only [ho, Sem.run_bind, Sem.run_pure, Result.andThen_ok] at hrun ⊢
  simp only [hrun, Result.andThen_ok]
  exact h
theorem wl_field (hg : o.guard = none) (t : TypeId) (x : Operand) (f : Nat) (ho : o.op = .field t x f) (h : ∃ v w', (Instr.field t (a.eval x) f).run P w = .ok v w' ∧ wpList P ops Q rest (a.put o.dst v) w') : wpList P ops Q (o :: rest) a w := by
  obtain ⟨v, w', hrun, h⟩ := h
  exact wpList_plain hg fun _ hK => wp_field t x f ho ⟨v, w', hrun, hK _ _ h⟩
theorem st_field (hg : o.guard = none) (t : TypeId) (x : Operand) (f : Nat) (ho : o.op = .field t x f) (h : ∃ v w', (Instr.field t (a.eval x) f).run P w = .ok v w' ∧ K (a.put o.dst v) w') : if Region.wanted o (yielded ops a.tmps) = true then o.wp P a w K Q else E := by
  rw [if_pos (by simp [Region.wanted, hg])]
  exact wp_field t x f ho h
theorem wp_lookup (t : TypeId) (x y : Operand) (ok : Bool) (ho : o.op = .lookup t x y ok) (h : ∃ v w', (Instr.lookup t (a.eval x) (a.eval y) ok).run P w = .ok v w' ∧ K (a.put o.dst v) w') : o.wp P a w K Q := by
  obtain ⟨v, w', hrun, h⟩ := h
  unfold Oper.wp execOp
  simp only [ho, Sem.run_bind, Sem.run_pure, Result.andThen_ok] at hrun ⊢
  simp only [hrun, Result.andThen_ok]
  exact h
theorem wl_lookup (hg : o.guard = none) (t : TypeId) (x y : Operand) (ok : Bool) (ho : o.op = .lookup t x y ok) (h : ∃ v w', (Instr.lookup t (a.eval x) (a.eval y) ok).run P w = .ok v w' ∧ wpList P ops Q rest (a.put o.dst v) w') : wpList P ops Q (o :: rest) a w := by
  obtain ⟨v, w', hrun, h⟩ := h
  exact wpList_plain hg fun _ hK => wp_lookup t x y ok ho ⟨v, w', hrun, hK _ _ h⟩
theorem st_lookup (hg : o.guard = none) (t : TypeId) (x y : Operand) (ok : Bool) (ho : o.op = .lookup t x y ok) (h : ∃ v w', (Instr.lookup t (a.eval x) (a.eval y) ok).run P w = .ok v w' ∧ K (a.put o.dst v) w') : if Region.wanted o (yielded ops a.tmps) = true then o.wp P a w K Q else E := by
  rw [if_pos (by simp [Region.wanted, hg])]
  exact wp_lookup t x y ok ho h
theorem wp_mapUpdate (t : TypeId) (x y z : Operand) (ho : o.op = .mapUpdate t x y z) (h : ∃ w', (Instr.mapUpdate t (a.eval x) (a.eval y) (a.eval z)).run P w = .ok () w' ∧ K (a.put o.dst undef) w') : o.wp P a w K Q := by
  obtain ⟨w', hrun, h⟩ := h
  unfold Oper.wp execOp
  simp only [ho, Sem.run_bind, Sem.run_pure, Result.andThen_ok] at hrun ⊢
  simp only [hrun, Result.andThen_ok]
  exact h
theorem wl_mapUpdate (hg : o.guard = none) (t : TypeId) (x y z : Operand) (ho : o.op = .mapUpdate t x y z) (h : ∃ w', (Instr.mapUpdate t (a.eval x) (a.eval y) (a.eval z)).run P w = .ok () w' ∧ wpList P ops Q rest (a.put o.dst undef) w') : wpList P ops Q (o :: rest) a w := by
  obtain ⟨w', hrun, h⟩ := h
  exact wpList_plain hg fun _ hK => wp_mapUpdate t x y z ho ⟨w', hrun, hK _ _ h⟩
theorem st_mapUpdate (hg : o.guard = none) (t : TypeId) (x y z : Operand) (ho : o.op = .mapUpdate t x y z) (h : ∃ w', (Instr.mapUpdate t (a.eval x) (a.eval y) (a.eval z)).run P w = .ok () w' ∧ K (a.put o.dst undef) w') : if Region.wanted o (yielded ops a.tmps) = true then o.wp P a w K Q else E := by
  rw [if_pos (by simp [Region.wanted, hg])]
  exact wp_mapUpdate t x y z ho h
/-- A builtin's call. -/
theorem wp_builtin (b : Builtin) (args : Array Operand) (ts : Array TypeId) (ho : o.op = .call { callee := .builtin b, args, argTypes := ts }) 
    (h : ∃ v w', (∀ cs : Array Bool, (builtin b ts o.type cs (args.map a.eval)).run P w = .ok (.value v) w') ∧ K (a.put o.dst v) w') : o.wp P a w K Q := by
  obtain ⟨v, w', hrun, h⟩ := h
  unfold Oper.wp execOp
  simp only [ho, resolve, invoke, Sem.run_bind, Sem.run_pure, Result.andThen_ok, hrun]
  exact h
theorem wl_builtin (hg : o.guard = none) (b : Builtin) (args : Array Operand) (ts : Array TypeId) (ho : o.op = .call { callee := .builtin b, args, argTypes := ts }) 
    (h : ∃ v w', (∀ cs : Array Bool, (builtin b ts o.type cs (args.map a.eval)).run P w = .ok (.value v) w') ∧ wpList P ops Q rest (a.put o.dst v) w') : wpList P ops Q (o :: rest) a w := by
  obtain ⟨v, w', hrun, h⟩ := h
  exact wpList_plain hg fun _ hK => wp_builtin b args ts ho ⟨v, w', hrun, hK _ _ h⟩
theorem st_builtin (hg : o.guard = none) (b : Builtin) (args : Array Operand) (ts : Array TypeId) (ho : o.op = .call { callee := .builtin b, args, argTypes := ts }) 
    (h : ∃ v w', (∀ cs : Array Bool, (builtin b ts o.type cs (args.map a.eval)).run P w = .ok (.value v) w') ∧ K (a.put o.dst v) w') : if Region.wanted o (yielded ops a.tmps) = true then o.wp P a w K Q else E := by
  rw [if_pos (by simp [Region.wanted, hg])]
  exact wp_builtin b args ts ho h
/-- copy between slices of one-celled elements. -/
theorem run_builtin_copy {w' : World} {dT sT ty : TypeId} {d s v : Value} (h : (Builtin.copy_ #[dT, sT] ty #[d, s]).run P w = .ok v w') : ∀ cs : Array Bool, (builtin .copy #[dT, sT] ty cs #[d, s]).run P w = .ok (.value v) w' := by
  intro cs
  simp [builtin, h, Result.andThen]
theorem run_builtin_append {w' : World} {dT sT ty : TypeId} {d s v : Value} (h : (Builtin.append_ #[dT, sT] ty #[d, s]).run P w = .ok v w') : ∀ cs : Array Bool, (builtin .append #[dT, sT] ty cs #[d, s]).run P w = .ok (.value v) w' := by
  intro cs
  simp [builtin, h, Result.andThen]
theorem run_builtin_clear {w' : World} {dT ty : TypeId} {d v : Value} (h : (Builtin.clear_ #[dT] ty #[d]).run P w = .ok v w') : ∀ cs : Array Bool, (builtin .clear #[dT] ty cs #[d]).run P w = .ok (.value v) w' := by
  intro cs
  simp [builtin, h, Result.andThen]
end

/-- alloc: a new variable at its type's zero. -/
theorem run_alloc {P : Program} (w : World) {t : TypeId} {z : Value} {n k : Nat} (hz : (P.info? t).map (fun i => (i.zero, i.size, i.bytes)) = some (some z, n, k)) :
    (Instr.alloc t true (.tuple #[])).run P w = .ok (.pointer (some ⟨w.heap.size, 0, none⟩)) (w.alloc (.cells z.cells t)) := by
  obtain ⟨i, hi, h1, h2, h3⟩ := info_parts hz
  simp [Instr.alloc, zeroValue, typeInfo, hi, h1, newVar, newRow, Result.andThen]

/-- A row of cells read one behind the other, as the walk meets it. -/
theorem run_loadFrom_range {P : Program} {w : World} {b o n : Nat} {cs : List Value} (h : w.rangeAt b o cs) (hn : cs.length = n) : (loadCellsFrom ⟨b, o, none⟩ 0 n #[]).run P w = .ok cs.toArray w := by
  subst hn
  have := run_loadCells_list (P := P) w ⟨b, o, none⟩ cs (fun j v hv => by rw [Addr.add_mid]; exact h j v hv)
  simpa [loadCells] using this

/-- A slice literal of one aggregate. -/
theorem run_buildSlice_one {P : Program} (w : World) {t e : TypeId} {cs : Array Value} {n k : Nat} {z : Value} (ht : P.underlying t = some (.slice e)) (hz : (P.info? e).map (fun i => (i.zero, i.size, i.bytes)) = some (some z, n, k)) (hn : cs.size = n) (hn0 : 0 < n) (hn1 : n ≤ 16777216) :
    (Instr.buildSlice t 1 #[(0, .agg cs)]).run P w = .ok (.slice (some ⟨w.heap.size, 0, none⟩) 1 1) (w.alloc (.cells cs e)) := by
  obtain ⟨i, hi, h1, h2, h3⟩ := info_parts hz
  have hfold : ∀ (l : List Value) (k : Nat) (acc : Array Value), acc.size = k + l.length → ((l.zipIdx k).foldl (fun cs x => cs.setIfInBounds x.snd x.fst) acc) = (acc.toList.take k ++ l).toArray := by
    intro l
    induction l with
    | nil => intro k acc hk; simp at hk; apply Array.ext'; simp [List.take_of_length_le, hk]
    | cons c l ih =>
      intro k acc hk
      simp only [List.zipIdx_cons, List.foldl_cons]
      rw [ih (k + 1) _ (by simp at hk ⊢; omega)]
      apply Array.ext'
      simp only [Array.toList_setIfInBounds]
      have hk' : k < acc.toList.length := by simp at hk ⊢; omega
      rw [List.take_succ_eq_append_getElem (by simpa using hk')]
      simp [List.take_set]
      rw [List.set_eq_of_length_le (by simp; omega)]
  have hf := hfold cs.toList 0
  have hn2 : ¬ (16777216 < n) := by omega
  have hn3 : ¬ n = 0 := by omega
  simp [Instr.buildSlice, run_underlying ht, sizeOf, typeInfo, hi, h2, hn2, hn3, zeroValue, h1, Instr.fill, Value.cells, hn, newRow, Result.andThen]
  generalize hX : Array.map _ (Array.range n) = X
  have hXs : X.size = n := by rw [← hX]; simp
  have e : Array.foldl (fun cs x => cs.setIfInBounds x.snd x.fst) X cs.zipIdx 0 n = Array.foldl (fun cs x => cs.setIfInBounds x.snd x.fst) X cs.zipIdx := by rw [show cs.zipIdx.size = n by simpa using hn]
  rw [e, ← Array.foldl_toList, Array.toList_zipIdx, hf X (by simp [hXs, hn])]
  simp
end Go.Proofs.YtojlojdkhegbkaaDoor

/-
  A region that draws its order whose last operation, for which all others are waited, may turn what the loads read: as the kit's 'wpAnyH' (Derived/OrdersHeld.lean), but S need not hold behind that last one.
-/
namespace Go.Proofs.YtojlojdkhegbkaaDoor
set_option linter.unusedVariables false
set_option linter.unusedSimpArgs false
open Go
section
variable {P : Program} {ops : Array Oper} {Q : Exit → Act → World → Prop} {md : Region.Mode} {S : World → Prop} {last : Nat}

def wpAnyL (P : Program) (md : Region.Mode) (ops : Array Oper) (Q : Exit → Act → World → Prop) (S : World → Prop) (last : Nat) : Nat → Array Bool → Act → World → Prop
  | 0, listed, a, w => Region.ready md ops listed = [] ∧ Q .normal a w
  | fuel + 1, listed, a, w =>
    (Region.ready md ops listed = [] → Q .normal a w) ∧
    ∀ i ∈ Region.ready md ops listed, wpOp P ops Q i (fun a' w' => (i ≠ last → S w') ∧ wpAnyL P md ops Q S last fuel (listed.setIfInBounds i true) a' w') a w

theorem wpAny_of_L : ∀ (fuel : Nat) (listed : Array Bool) (a : Act) (w : World), wpAnyL P md ops Q S last fuel listed a w → wpAny P md ops Q fuel listed a w
  | 0, _, _, _, h => h
  | fuel + 1, _, _, _, h => ⟨h.1, fun i hi => wpOp_mono (fun a' w' h' => wpAny_of_L fuel _ a' w' h'.2) (h.2 i hi)⟩

theorem wpAnyL_first {i : Nat} {oi : Oper} {v : Value} (hi : ops[i]? = some oi) (hsel : ∀ (j : Nat) (o : Oper) cs b, ops[j]? = some o → o.op ≠ .select cs b)
    (hil : i ≠ last) (hlast : ∀ ol, ops[last]? = some ol → ∃ e ∈ ol.after, Region.binds md e = true ∧ e.on = i)
    (hQ : ∀ c a w, Q (.panic c) (a.put oi.dst v) w → Q (.panic c) a w) :
    ∀ (fuel : Nat) (listed : Array Bool) (a : Act) (w : World),
      (∀ j oj, ops[j]? = some oj → j ≠ i → listed.getD j true = false → (∀ e ∈ oj.after, Region.binds md e = true → e.on ≠ i) → oi.apart ops oj = true) →
      i ∈ Region.ready md ops listed → YieldsIf P ops S oi v a → S w →
      wpAnyL P md ops Q S last fuel (listed.setIfInBounds i true) (a.put oi.dst v) w → wpAnyL P md ops Q S last (fuel + 1) listed a w := by
  intro fuel
  induction fuel with
  | zero =>
    intro listed a w _ hr hy hS H
    refine ⟨fun h => (by rw [h] at hr; cases hr), fun j hj => ?_⟩
    by_cases hji : j = i
    · subst hji; exact hy.wpOp hi hS ⟨fun _ => hS, H⟩
    · have := ready_mono hj hji
      rw [H.1] at this
      cases this
  | succ fuel ih =>
    intro listed a w hfree hr hy hS H
    refine ⟨fun h => (by rw [h] at hr; cases hr), fun j hj => ?_⟩
    by_cases hji : j = i
    · subst hji; exact hy.wpOp hi hS ⟨fun _ => hS, H⟩
    · have h1 := H.2 j (ready_mono hj hji)
      obtain ⟨hjun, oj, hoj, hall⟩ := mem_ready.1 hj
      have hnot : ∀ e ∈ oj.after, Region.binds md e = true → e.on ≠ i := fun e he hb heq => by
        have h1 := hall e he hb
        have h0 := (mem_ready.1 hr).1
        rw [heq] at h1
        rcases Nat.lt_or_ge i listed.size with h' | h'
        · simp [h'] at h0 h1; rw [h0] at h1; cases h1
        · simp [Array.getElem?_eq_none h'] at h1
      have hjl : j ≠ last := by
        rintro rfl
        obtain ⟨e, he, hb, heq⟩ := hlast oj hoj
        exact hnot e he hb heq
      have h2 := wpOp_putIf hoj (hfree j oj hoj hji hjun hnot) (fun cs b => hsel i oi cs b hi) (fun cs b => hsel j oj cs b hoj) hQ hy h1
      have hfree' : ∀ k ok, ops[k]? = some ok → k ≠ i → (listed.setIfInBounds j true).getD k true = false →
          (∀ e ∈ ok.after, Region.binds md e = true → e.on ≠ i) → oi.apart ops ok = true := fun k ok hk hki hun hno => by
        refine hfree k ok hk hki ?_ hno
        by_cases hjk : j = k
        · subst hjk; exact hjun
        · rw [getD_set_ne true hjk] at hun; exact hun
      refine wpOp_mono (fun a' w' h3 => ⟨fun _ => h3.2.1 hjl, ih (listed.setIfInBounds j true) a' w' hfree' (ready_mono hr (Ne.symm hji)) h3.1 (h3.2.1 hjl) ?_⟩) h2
      rw [Array.setIfInBounds_comm _ _ hji]
      exact h3.2.2

/-- Does the last one wait for number i? -/
def waitsFor (md : Region.Mode) (ops : Array Oper) (last i : Nat) : Bool :=
  i != last && match ops[last]? with
  | some ol => ol.after.any fun e => Region.binds md e && e.on == i
  | none => true

theorem rl_take {i : Nat} {oi : Oper} {v : Value} {fuel : Nat} {listed : Array Bool} {a : Act} {w : World} (hi : ops[i]? = some oi)
    (hs : Region.noSelect ops = true) (hf : Region.free md ops listed i = true) (hr : (Region.ready md ops listed).contains i = true) (hl : waitsFor md ops last i = true)
    (hQ : ∀ c a w, Q (.panic c) (a.put oi.dst v) w → Q (.panic c) a w) (hy : YieldsIf P ops S oi v a) (hS : S w)
    (h : wpAnyL P md ops Q S last fuel (listed.setIfInBounds i true) (a.put oi.dst v) w) : wpAnyL P md ops Q S last (fuel + 1) listed a w := by
  simp only [waitsFor, Bool.and_eq_true, bne_iff_ne] at hl
  refine wpAnyL_first hi (Region.noSelect_spec hs) hl.1 (fun ol hol => ?_) hQ fuel listed a w (Region.free_spec hi hf) (by simpa using hr) hy hS h
  have h2 := hl.2
  simp only [hol, Array.any_eq_true'] at h2
  obtain ⟨e, he, h3⟩ := h2
  simp only [Bool.and_eq_true, beq_iff_eq] at h3
  exact ⟨e, he, h3.1, h3.2⟩

/-- The one operation that may come up is carried out; behind it S is to be shown anew. -/
theorem rl_act {i : Nat} {o : Oper} {fuel : Nat} {listed : Array Bool} {a : Act} {w : World} (hr : Region.ready md ops listed = [i]) (ho : ops[i]? = some o)
    (h : ∀ K' : Act → World → Prop, Shut (∀ a w, S w → (S w → wpAnyL P md ops Q S last fuel (listed.setIfInBounds i true) a w) → K' a w) → if Region.wanted o (yielded ops a.tmps) = true then Oper.wp P o a w K' Q else K' (a.put o.dst undef) w) :
    wpAnyL P md ops Q S last (fuel + 1) listed a w := by
  refine ⟨fun h0 => (by rw [h0] at hr; cases hr), ?_⟩
  rw [hr]
  intro j hj
  obtain rfl : j = i := by simpa using hj
  exact wpOp_step ho (fun K' hK => h K' (fun a w hS hW => hK a w ⟨fun _ => hS, hW hS⟩))

/-- The last one. -/
theorem rl_last {o : Oper} {fuel : Nat} {listed : Array Bool} {a : Act} {w : World} (hr : Region.ready md ops listed = [last]) (hr2 : Region.ready md ops (listed.setIfInBounds last true) = []) (ho : ops[last]? = some o)
    (h : ∀ K' : Act → World → Prop, Shut (∀ a w, Q .normal a w → K' a w) → if Region.wanted o (yielded ops a.tmps) = true then Oper.wp P o a w K' Q else K' (a.put o.dst undef) w) :
    wpAnyL P md ops Q S last (fuel + 1) listed a w := by
  refine ⟨fun h0 => (by rw [h0] at hr; cases hr), ?_⟩
  rw [hr]
  intro j hj
  obtain rfl : j = last := by simpa using hj
  refine wpOp_step ho (fun K' hK => h K' (fun a w hq => hK a w ⟨fun hne => absurd rfl hne, ?_⟩))
  cases fuel with
  | zero => exact ⟨hr2, hq⟩
  | succ f => exact ⟨fun _ => hq, by rw [hr2]; simp⟩

theorem rl_start {id : Nat} {a : Act} {w : World} (S : World → Prop) (last : Nat) (hm : P.follows .mixedOrders = true) (hS : S w.drew)
    (h : S w.drew → wpAnyL P .any ops Q S last ops.size (Array.replicate ops.size false) a w.drew) : (Code.region id ops true).wp P Q a w :=
  wp_region_any hm (wpAny_of_L _ _ _ _ (h hS))

theorem rl_done {fuel : Nat} {listed : Array Bool} {a : Act} {w : World} (hr : Region.ready md ops listed = []) (h : Q .normal a w) : wpAnyL P md ops Q S last fuel listed a w := by
  cases fuel with
  | zero => exact ⟨hr, h⟩
  | succ f => exact ⟨fun _ => h, by rw [hr]; simp⟩
end
end Go.Proofs.YtojlojdkhegbkaaDoor

/-
  A region that draws its order: a call that leaves the world as it is may be taken as a load is (the kit's 'wpAnyH_take', for calls too).
-/
namespace Go.Proofs.YtojlojdkhegbkaaDoor
set_option linter.unusedVariables false
set_option linter.unusedSimpArgs false
open Go
section
variable {P : Program} {ops : Array Oper} {Q : Exit → Act → World → Prop} {md : Region.Mode} {S : World → Prop}

/-- In this world the operation leaves v and does nothing else, be it by a call. -/
def QuietAt (P : Program) (ρ : Operand → Value) (o : Oper) (v : Value) (w : World) : Prop :=
  match (execOp ρ o).run P w with
  | .ok (.value u) w' => u = v ∧ w' = w
  | .ok (.enter f args) w' => w' = w ∧ Calls P f args w (fun e w'' => e = .returned v ∧ w = w'')
  | _ => False
theorem QuietAt.wp {o : Oper} {v : Value} {a : Act} {w : World} {K : Act → World → Prop} (h : QuietAt P a.eval o v w) (hK : K (a.put o.dst v) w) : o.wp P a w K Q := by
  unfold Oper.wp
  unfold QuietAt at h
  generalize (execOp a.eval o).run P w = r at *
  split at h
  · obtain ⟨rfl, rfl⟩ := h
    exact hK
  · obtain ⟨rfl, h⟩ := h
    rw [Oper.upon_enter]
    refine Calls.mono h fun e w'' he => ?_
    obtain ⟨rfl, rfl⟩ := he
    exact hK
  · exact h.elim
def YieldsC (P : Program) (ops : Array Oper) (S : World → Prop) (o : Oper) (v : Value) (a : Act) : Prop :=
  (Region.wanted o (yielded ops a.tmps) = true ∧ ∀ w, S w → QuietAt P a.eval o v w) ∨ (Region.wanted o (yielded ops a.tmps) = false ∧ v = undef)
theorem YieldsC.wpOp {i : Nat} {o : Oper} {v : Value} {a : Act} (hi : ops[i]? = some o) (hy : YieldsC P ops S o v a)
    {K : Act → World → Prop} {w : World} (hS : S w) (h : K (a.put o.dst v) w) : wpOp P ops Q i K a w := by
  unfold Go.wpOp
  simp only [hi]
  rcases hy with ⟨hw, hv⟩ | ⟨hw, rfl⟩
  · simp only [hw, if_true]; exact .inl ((hv w hS).wp h)
  · simp only [hw, Bool.false_eq_true, if_false]; exact h
theorem YieldsC.of_same {o : Oper} {v : Value} {a a' : Act} (hy : YieldsC P ops S o v a) (he : execOp a'.eval o = execOp a.eval o)
    (hw : Region.wanted o (yielded ops a'.tmps) = Region.wanted o (yielded ops a.tmps)) : YieldsC P ops S o v a' := by
  unfold YieldsC QuietAt at *
  rw [he, hw]
  exact hy
theorem wpOp_putC {j : Nat} {oi oj : Oper} {v : Value} (hj : ops[j]? = some oj) (hap : oi.apart ops oj = true)
    (hsi : ∀ cs b, oi.op ≠ .select cs b) (hsj : ∀ cs b, oj.op ≠ .select cs b)
    (hQ : ∀ c a w, Q (.panic c) (a.put oi.dst v) w → Q (.panic c) a w) {K : Act → World → Prop} {a : Act} {w : World}
    (hy : YieldsC P ops S oi v a) (h : wpOp P ops Q j K (a.put oi.dst v) w) :
    wpOp P ops Q j (fun a' w' => YieldsC P ops S oi v a' ∧ K (a'.put oi.dst v) w') a w := by
  obtain ⟨h1, h2, h3⟩ := Oper.apart_spec hap
  have keep : ∀ (a : Act), YieldsC P ops S oi v a → ∀ u, YieldsC P ops S oi v (a.put oj.dst u) := fun a hy u =>
    hy.of_same (execOp_put oi hsi a oj.dst u h3) (wanted_put oi a oj.dst u h3)
  have keepD : ∀ d, YieldsC P ops S oi v { a with defers := d :: a.defers } := fun d => hy.of_same rfl rfl
  unfold wpOp at *
  simp only [hj] at *
  rw [wanted_put oj a oi.dst v h1] at h
  split
  · rename_i hw
    simp only [hw, if_true] at h
    rcases h with h | ⟨hasks, hlets⟩
    case inr => exact .inr ⟨by unfold Oper.asks at *; rw [execOp_put oj hsj a oi.dst v h1] at hasks; exact hasks, hlets⟩
    refine .inl ?_
    unfold Oper.wp at *
    rw [execOp_put oj hsj a oi.dst v h1] at h
    generalize (execOp a.eval oj).run P w = r at *
    cases r with
    | ok n w' =>
      cases n <;> simp only [Oper.upon] at h ⊢
      case value u => exact ⟨keep a hy u, by rw [← Act.put_comm a v u h2]; exact h⟩
      case skip => exact ⟨keep a hy _, by rw [← Act.put_comm a v undef h2]; exact h⟩
      case defer d =>
        refine ⟨keep _ (keepD d) _, ?_⟩
        rw [← Act.put_comm _ v undef h2, ← Act.put_defers]
        exact h
      case enter f args =>
        refine Calls.mono h fun e w'' he => ?_
        cases e with
        | returned u => exact ⟨keep a hy u, by rw [← Act.put_comm a v u h2]; exact he⟩
        | panicked c => exact hQ _ _ _ he
        | outgrown => exact he
      case row row args => exact Rows.mono h fun u w'' he => ⟨keep a hy u, by rw [← Act.put_comm a v u h2]; exact he⟩
    | halt x w' =>
      cases x <;> simp only [Oper.upon] at h ⊢
      case panic u => exact hQ _ _ _ h
  · rename_i hw
    simp only [hw] at h
    exact ⟨keep a hy _, by rw [← Act.put_comm a v undef h2]; exact h⟩
theorem wpAnyH_firstC {i : Nat} {oi : Oper} {v : Value} (hi : ops[i]? = some oi) (hsel : ∀ (j : Nat) (o : Oper) cs b, ops[j]? = some o → o.op ≠ .select cs b)
    (hQ : ∀ c a w, Q (.panic c) (a.put oi.dst v) w → Q (.panic c) a w) :
    ∀ (fuel : Nat) (listed : Array Bool) (a : Act) (w : World),
      (∀ j oj, ops[j]? = some oj → j ≠ i → listed.getD j true = false → (∀ e ∈ oj.after, Region.binds md e = true → e.on ≠ i) → oi.apart ops oj = true) →
      i ∈ Region.ready md ops listed → YieldsC P ops S oi v a → S w →
      wpAnyH P md ops Q S fuel (listed.setIfInBounds i true) (a.put oi.dst v) w → wpAnyH P md ops Q S (fuel + 1) listed a w := by
  intro fuel
  induction fuel with
  | zero =>
    intro listed a w _ hr hy hS H
    refine ⟨fun h => (by rw [h] at hr; cases hr), fun j hj => ?_⟩
    by_cases hji : j = i
    · subst hji; exact hy.wpOp hi hS ⟨hS, H⟩
    · have := ready_mono hj hji
      rw [H.1] at this
      cases this
  | succ fuel ih =>
    intro listed a w hfree hr hy hS H
    refine ⟨fun h => (by rw [h] at hr; cases hr), fun j hj => ?_⟩
    by_cases hji : j = i
    · subst hji; exact hy.wpOp hi hS ⟨hS, H⟩
    · have h1 := H.2 j (ready_mono hj hji)
      obtain ⟨hjun, oj, hoj, hall⟩ := mem_ready.1 hj
      have hnot : ∀ e ∈ oj.after, Region.binds md e = true → e.on ≠ i := fun e he hb heq => by
        have h1 := hall e he hb
        have h0 := (mem_ready.1 hr).1
        rw [heq] at h1
        rcases Nat.lt_or_ge i listed.size with h' | h'
        · simp [h'] at h0 h1; rw [h0] at h1; cases h1
        · simp [Array.getElem?_eq_none h'] at h1
      have h2 := wpOp_putC hoj (hfree j oj hoj hji hjun hnot) (fun cs b => hsel i oi cs b hi) (fun cs b => hsel j oj cs b hoj) hQ hy h1
      have hfree' : ∀ k ok, ops[k]? = some ok → k ≠ i → (listed.setIfInBounds j true).getD k true = false →
          (∀ e ∈ ok.after, Region.binds md e = true → e.on ≠ i) → oi.apart ops ok = true := fun k ok hk hki hun hno => by
        refine hfree k ok hk hki ?_ hno
        by_cases hjk : j = k
        · subst hjk; exact hjun
        · rw [getD_set_ne true hjk] at hun; exact hun
      refine wpOp_mono (fun a' w' h3 => ⟨h3.2.1, ih (listed.setIfInBounds j true) a' w' hfree' (ready_mono hr (Ne.symm hji)) h3.1 h3.2.1 ?_⟩) h2
      rw [Array.setIfInBounds_comm _ _ hji]
      exact h3.2.2
theorem hc_take {i : Nat} {oi : Oper} {v : Value} {fuel : Nat} {listed : Array Bool} {a : Act} {w : World} (hi : ops[i]? = some oi)
    (hs : Region.noSelect ops = true) (hf : Region.free md ops listed i = true) (hr : (Region.ready md ops listed).contains i = true)
    (hQ : ∀ c a w, Q (.panic c) (a.put oi.dst v) w → Q (.panic c) a w) (hy : YieldsC P ops S oi v a) (hS : S w)
    (h : wpAnyH P md ops Q S fuel (listed.setIfInBounds i true) (a.put oi.dst v) w) : wpAnyH P md ops Q S (fuel + 1) listed a w :=
  wpAnyH_firstC hi (Region.noSelect_spec hs) hQ fuel listed a w (Region.free_spec hi hf) (by simpa using hr) hy hS h
theorem run_callFunc_body {f : FuncId} {fn : Func} (hf : P.funcs[f]? = some fn) (hn : (fn.name == "runtime.NumGoroutine") = false) (hb : fn.body.isNone = false) (vs : Array Value) (w : World) : (callFunc f vs).run P w = .ok (.enter f vs) w := by
  have hn' : fn.name ≠ "runtime.NumGoroutine" := by simpa using hn
  have hb' : fn.body ≠ none := by intro e; rw [e] at hb; cases hb
  simp [callFunc, hf, hn', hb', Sem.run]
/-- A call of a function of the program that does nothing but answer. -/
theorem yieldsC_call {o : Oper} {v : Value} {a : Act} (hw : Region.wanted o (yielded ops a.tmps) = true) (f : FuncId) (xs : Array Operand) (ts : Array TypeId) (ho : o.op = .call { callee := .value (.func f), args := xs, argTypes := ts })
    (fn : Func) (hf : P.funcs[f]? = some fn) (hn : (fn.name == "runtime.NumGoroutine") = false) (hb : fn.body.isNone = false)
    (vs : Array Value) (hvs : xs.map a.eval = vs) (h : ∀ w, S w → Calls P f vs w (fun e w' => e = .returned v ∧ w = w')) : YieldsC P ops S o v a := by
  refine .inl ⟨hw, fun w hS => ?_⟩
  subst hvs
  have hr := run_callFunc_body hf hn hb (xs.map a.eval) w
  have : (execOp a.eval o).run P w = .ok (.enter f (xs.map a.eval)) w := by
    unfold execOp
    simp [ho, resolve, Deferred.ofValue, Act.eval, invoke] at hr ⊢
    exact hr
  unfold QuietAt
  rw [this]
  exact ⟨rfl, h w hS⟩
end
end Go.Proofs.YtojlojdkhegbkaaDoor

/-
  Things that lie in memory, each over blocks of its own: what a call on one of them leaves of the others.
-/
namespace Go.Proofs.YtojlojdkhegbkaaDoor
set_option linter.unusedVariables false
set_option linter.unusedSimpArgs false
open Go.RowKit

/-- The new footprint is of the old one's blocks and of new blocks. -/
def From (w : World) (F F' : List Nat) : Prop := ∀ k ∈ F', k ∈ F ∨ w.heap.size ≤ k
theorem From.refl (w : World) (F : List Nat) : From w F F := fun _ h => .inl h
theorem From.trans {w w' : World} {F F' F'' : List Nat} (h : From w F F') (h' : From w' F' F'') (hs : w.heap.size ≤ w'.heap.size) : From w F F'' := fun k hk =>
  (h' k hk).elim (h k) (fun hle => .inr (by omega))

/-- Something that lies over the blocks F. -/
structure Thing where
  F : List Nat
  P : World → Prop
  stays : ∀ w w' : World, P w → (∀ k ∈ F, w'.heap[k]? = w.heap[k]?) → P w'
  lt : ∀ w, P w → ∀ k ∈ F, k < w.heap.size

/-- All of these lie in w, over blocks from base on, and no two share one. -/
structure Live (w : World) (base : Nat) (L : List Thing) : Prop where
  all : ∀ t ∈ L, t.P w ∧ ∀ k ∈ t.F, base ≤ k
  apart : L.Pairwise (fun s t => ∀ k ∈ s.F, k ∉ t.F)

namespace Live
variable {w w' : World} {base : Nat} {L : List Thing} {t t' : Thing}
theorem nil (w : World) (base : Nat) : Live w base [] := ⟨by simp, .nil⟩
theorem get (h : Live w base L) {i : Nat} (hi : L[i]? = some t) : t.P w := (h.all t (List.mem_of_getElem? hi)).1
theorem ge (h : Live w base L) {i : Nat} (hi : L[i]? = some t) : ∀ k ∈ t.F, base ≤ k := (h.all t (List.mem_of_getElem? hi)).2
theorem keep (h : Live w base L) (hk : Keeps [] w w') : Live w' base L :=
  ⟨fun t ht => ⟨t.stays w w' (h.all t ht).1 (fun k hk' => hk.block k (t.lt w (h.all t ht).1 k hk') (by simp)), (h.all t ht).2⟩, h.apart⟩
theorem add (h : Live w base L) (hk : Keeps [] w w') (hp : t.P w') (hf : From w [] t.F) (hb : base ≤ w.heap.size) : Live w' base (t :: L) := by
  have h' := h.keep hk
  have hn : ∀ k ∈ t.F, w.heap.size ≤ k := fun k hk' => (hf k hk').resolve_left (by simp)
  refine ⟨fun s hs => ?_, List.Pairwise.cons (fun s hs k hk' hks => ?_) h.apart⟩
  · rcases List.mem_cons.1 hs with rfl | hs
    · exact ⟨hp, fun k hk' => Nat.le_trans hb (hn k hk')⟩
    · exact h'.all s hs
  · have h1 := s.lt w (h.all s hs).1 k hks
    have h2 := hn k hk'
    omega
theorem apart_of (h : Live w base L) {i j : Nat} (hij : i ≠ j) {s : Thing} (hi : L[i]? = some t) (hj : L[j]? = some s) : ∀ k ∈ t.F, k ∉ s.F := by
  obtain ⟨hi', rfl⟩ := List.getElem?_eq_some_iff.1 hi
  obtain ⟨hj', rfl⟩ := List.getElem?_eq_some_iff.1 hj
  rcases Nat.lt_or_ge i j with hlt | hge
  · exact List.pairwise_iff_getElem.1 h.apart i j hi' hj' hlt
  · have := List.pairwise_iff_getElem.1 h.apart j i hj' hi' (by omega)
    exact fun k hk hk' => this k hk' hk
theorem upd (h : Live w base L) {i : Nat} (hi : L[i]? = some t) (hk : Keeps t.F w w') (hp : t'.P w') (hf : From w t.F t'.F) (hb : base ≤ w.heap.size) : Live w' base (L.set i t') := by
  obtain ⟨hlt, hit⟩ := List.getElem?_eq_some_iff.1 hi
  have hge : ∀ k ∈ t'.F, base ≤ k := fun k hk' => (hf k hk').elim (h.ge hi k) (Nat.le_trans hb)
  have far : ∀ j s, j ≠ i → L[j]? = some s → (∀ k ∈ s.F, k ∉ t'.F) := fun j s hj hs k hks hkt => by
    rcases hf k hkt with hkt | hkt
    · exact h.apart_of (Ne.symm hj) hi hs k hkt hks
    · have := s.lt w (h.get hs) k hks
      omega
  refine ⟨fun s hs => ?_, ?_⟩
  · obtain ⟨j, hj, rfl⟩ := List.getElem_of_mem hs
    rw [List.length_set] at hj
    by_cases e : j = i
    · subst e
      rw [List.getElem_set_self]
      exact ⟨hp, hge⟩
    · rw [List.getElem_set_ne (Ne.symm e)]
      have hs' : L[j]? = some L[j] := List.getElem?_eq_getElem hj
      refine ⟨L[j].stays w w' (h.get hs') (fun k hk' => hk.block k (L[j].lt w (h.get hs') k hk') ?_), h.ge hs'⟩
      exact h.apart_of e hs' hi k hk'
  · rw [List.pairwise_iff_getElem]
    intro a b ha hb' hab
    rw [List.length_set] at ha hb'
    have ha' : L[a]? = some L[a] := List.getElem?_eq_getElem ha
    have hb'' : L[b]? = some L[b] := List.getElem?_eq_getElem hb'
    by_cases ea : a = i
    · subst ea
      rw [List.getElem_set_self, List.getElem_set_ne (by omega)]
      exact fun k hk' hkb => far b _ (by omega) hb'' k hkb hk'
    · by_cases eb : b = i
      · subst eb
        rw [List.getElem_set_self, List.getElem_set_ne (by omega)]
        exact far a _ ea ha'
      · rw [List.getElem_set_ne (by omega), List.getElem_set_ne (by omega)]
        exact h.apart_of (by omega) ha' hb''
theorem below (h : Live w base L) {i : Nat} (hi : L[i]? = some t) (hk : Keeps t.F w w') (hb : base ≤ w.heap.size) : Below base w w' := hk.below hb (h.ge hi)
end Live
theorem Keeps.below0 {w w' : World} {base : Nat} (hk : Keeps [] w w') (hb : base ≤ w.heap.size) : Below base w w' := hk.below hb (by simp)
end Go.Proofs.YtojlojdkhegbkaaDoor

/-
  Bytes of one's own: a slice at the head of a block of its own; what a walk carries along.
-/
namespace Go.Proofs.YtojlojdkhegbkaaDoor
set_option linter.unusedVariables false
set_option linter.unusedSimpArgs false
open Go.RowKit

theorem lt_of_heap {w : World} {b : Nat} {o : Obj} (h : w.heap[b]? = some o) : b < w.heap.size := lt_of_block h

theorem ownsRow_keep {w w' : World} {base : Nat} {e : TypeId} {size : Nat} {v : Value} {n : Nat} {xs : List Value} (h : w.ownsRow base e size v n xs) (hb : ∀ k, v.ownBlock = some k → w'.heap[k]? = w.heap[k]?) : w'.ownsRow base e size v n xs := by
  obtain ⟨h1, h2⟩ := h
  refine ⟨h1, ?_⟩
  rcases h2 with h2 | ⟨g, cap, cur, rfl, hg, hh, r⟩
  · exact .inl h2
  · exact .inr ⟨g, cap, cur, rfl, hg, (hb g rfl).trans hh, r⟩

theorem info_u8 : (Tryd.prog.info? 5).map (fun i => (i.zero, i.size, i.bytes)) = some (some (.int .u8 0), 1, 1) := by kernel_rfl

/-- v is a slice of bytes that reads as l, at the head of a block of its own. -/
def OwnB (w : World) (v : Value) (l : List UInt8) : Prop := w.ownsRow 0 5 1 v l.length (l.map B)
/-- 'append([]byte(nil), x...)' of some bytes. -/
theorem wl_append_nil {ops : Array Oper} {rest : List Oper} {o : Oper} {a : Act} {w : World} {Q : Exit → Act → World → Prop} (hg : o.guard = none) (s x : Operand)
    (ho : o.op = .call { callee := .builtin .append, args := #[s, x], argTypes := #[25, 25] }) (hs : a.eval s = .slice none 0 0) {g o' n c : Nat} (hx : a.eval x = .slice (some ⟨g, o', none⟩) n c)
    (l : List UInt8) (hl : l.length = n) (hn : 0 < n) (hr : w.rangeAt g o' (l.map B)) (hb : n ≤ 140737488355328)
    (h : ∀ cap w', OwnB w' (.slice (some ⟨w.heap.size, 0, none⟩) n cap) l → w.grownBy w' none → w.heap.size < w'.heap.size → wpList Tryd.prog ops Q rest (a.put o.dst (.slice (some ⟨w.heap.size, 0, none⟩) n cap)) w') :
    wpList Tryd.prog ops Q (o :: rest) a w := by
  obtain ⟨i0, hi0, hz0, hz1, hz2⟩ := info_parts info_u8
  refine wpList_append_lies w hg s x 25 ho 0 5 i0 (.int .u8 0) 1 1 Tryd.underlying25 hi0 hz0 hz1 hz2 rfl (by omega) (.slice none 0 0) 0 [] hs (World.ownsRow_nil _ _ _ _) ⟨g, o', none⟩ n c (l.map B) hx (by simp [hl])
    (fun j u hu => by rw [Addr.add_mid]; exact hr j u hu) (B_one l) hn (by simp only [maxLen]; omega) (by omega) (by omega) w.heap.size rfl ?_
  intro g' cap w' h1 h2 h3 h4
  have e : g' = w.heap.size := by
    rcases h3 with h3 | h3
    · simp [Value.ownBlock] at h3
    · exact h3
  subst e
  simp only [Nat.zero_add, List.nil_append] at h1 ⊢
  refine h cap w' ?_ h2 h4
  unfold OwnB
  rw [hl]
  exact h1

theorem ownB_bytes {w : World} {v : Value} {l : List UInt8} (h : OwnB w v l) : BytesAt w v l := by
  rcases h.2 with ⟨rfl, h0⟩ | ⟨g, cap, cur, rfl, _, hh, h1, h2, h3, h4⟩
  · exact .inl ⟨List.eq_nil_of_length_eq_zero h0, none, 0, rfl, by simp [maxLen]⟩
  · refine .inr ⟨g, 0, cap, rfl, h1, h2, lt_of_heap hh, fun j u hj => ?_⟩
    rw [Nat.zero_add, cell_of_row w g j _ _ _ hh]
    rw [← h4, List.getElem?_take] at hj
    split at hj
    · simpa using hj
    · cases hj
def bytesThing (v : Value) (l : List UInt8) : Thing := ⟨v.ownBlock.toList, fun w => OwnB w v l, fun _ _ h hk => ownsRow_keep h (fun k hv => hk k (by simp [hv])), fun _ h k hk => (World.ownsRow.lt h k (by simpa using hk)).2⟩

theorem elemBlock_own {v : Value} {k : Nat} (h : v.elemBlock = some k) : v.ownBlock = some k := by
  unfold Value.elemBlock at h
  split at h
  · simpa [Value.ownBlock] using h
  · cases h
/-- What a law's walk carries: what was there is as it was; the things that it has made. -/
structure At (w0 w : World) (L : List Thing) : Prop where
  below : Below w0.heap.size w0 w
  live : Live w w0.heap.size L
namespace At
variable {w0 w w' : World} {L : List Thing} {t t' : Thing}
theorem start (w : World) : At w w [] := ⟨Below.refl _ _, Live.nil _ _⟩
theorem le (h : At w0 w L) : w0.heap.size ≤ w.heap.size := h.below.size
theorem keep (h : At w0 w L) (hk : Keeps [] w w') : At w0 w' L := ⟨h.below.trans (hk.below0 h.le), h.live.keep hk⟩
theorem add (h : At w0 w L) (hk : Keeps [] w w') (hp : t.P w') (hf : From w [] t.F) : At w0 w' (t :: L) := ⟨h.below.trans (hk.below0 h.le), h.live.add hk hp hf h.le⟩
theorem upd (h : At w0 w L) (i : Nat) (hi : L[i]? = some t) (hk : Keeps t.F w w') (hp : t'.P w') (hf : From w t.F t'.F) : At w0 w' (L.set i t') :=
  ⟨h.below.trans (h.live.below hi hk h.le), h.live.upd hi hk hp hf h.le⟩
theorem ge (h : At w0 w L) (i : Nat) (hi : L[i]? = some t) : ∀ k ∈ t.F, w0.heap.size ≤ k := h.live.ge hi
theorem bytes (h : At w0 w L) (i : Nat) {v : Value} {l : List UInt8} (hi : L[i]? = some (bytesThing v l)) : OwnB w v l := h.live.get hi
end At

theorem ownsRow_base {w : World} {base : Nat} {e : TypeId} {size : Nat} {v : Value} {n : Nat} {xs : List Value} (h : w.ownsRow base e size v n xs) : w.ownsRow 0 e size v n xs := by
  obtain ⟨h1, h2⟩ := h
  refine ⟨h1, ?_⟩
  rcases h2 with h2 | ⟨g, cap, cur, hv, hg, r⟩
  · exact .inl h2
  · exact .inr ⟨g, cap, cur, hv, Nat.zero_le _, r⟩
theorem BytesAt.form {w : World} {v : Value} {l : List UInt8} (h : BytesAt w v l) : ∃ a c, v = .slice a l.length c ∧ l.length ≤ c ∧ c ≤ maxLen := by
  rcases h with ⟨rfl, a, c, rfl, hc⟩ | ⟨g, o, cap, rfl, h1, h2, _⟩
  · exact ⟨a, c, rfl, Nat.zero_le _, hc⟩
  · exact ⟨_, _, rfl, h1, h2⟩
theorem BytesAt.at {w : World} {a : Option Addr} {n c : Nat} {l : List UInt8} (h : BytesAt w (.slice a n c) l) (hn : 0 < l.length) : ∃ g o, a = some ⟨g, o, none⟩ ∧ g < w.heap.size ∧ w.rangeAt g o (l.map B) := by
  rcases h with ⟨h0, _⟩ | ⟨g, o, cap, hv, _, _, h3, h4⟩
  · subst h0; simp at hn
  · injection hv with e _ _
    exact ⟨g, o, e, h3, h4⟩
theorem range_byte {w w' : World} {g o k : Nat} {l : List UInt8} (h : w.rangeAt g o (l.map B)) (hb : w'.heap[g]? = w.heap[g]?) {x : UInt8} (hx : l[k]? = some x) : w'.cell? ⟨g, o + k, none⟩ = some (.int .u8 x.toNat) := by
  rw [World.cell?_of_block (w := w) (w' := w') (a := ⟨g, o + k, none⟩) hb]
  exact h k _ (by rw [List.getElem?_map, hx]; rfl)
theorem OwnB.row {w : World} {g n cap : Nat} {l : List UInt8} (h : OwnB w (.slice (some ⟨g, 0, none⟩) n cap) l) :
    ∃ cur, w.heap[g]? = some (.cells cur 5 (0, 0)) ∧ n = l.length ∧ n ≤ cap ∧ cap ≤ maxLen ∧ cur.size = cap ∧ cur.toList.take n = l.map B := by
  rcases h.2 with ⟨h0, _⟩ | ⟨g', cap', cur, hv, _, hh, h1, h2, h3, h4⟩
  · cases h0
  · injection hv with e1 e2 e3
    injection e1 with e1
    injection e1 with e1 _
    subst e1 e2 e3
    exact ⟨cur, hh, rfl, h1, h2, by rw [h3, Nat.mul_one], by rw [← h4, Nat.mul_one]⟩
theorem OwnB.cell {w : World} {g n cap : Nat} {l : List UInt8} (h : OwnB w (.slice (some ⟨g, 0, none⟩) n cap) l) (i : Nat) (hi : i < l.length) : w.cell? ⟨g, i, none⟩ = some (B l[i]) := by
  obtain ⟨cur, hh, hn, _, _, _, ht⟩ := h.row
  rw [cell_of_row w g i _ _ _ hh]
  have : (l.map B)[i]? = some (B l[i]) := by rw [List.getElem?_map, List.getElem?_eq_getElem hi]; rfl
  rw [← ht, List.getElem?_take] at this
  split at this
  · simpa using this
  · cases this
theorem OwnB.free {w : World} {g n cap : Nat} {l : List UInt8} (h : OwnB w (.slice (some ⟨g, 0, none⟩) n cap) l) (i : Nat) : w.frozen? ⟨g, i, none⟩ = false := by
  obtain ⟨cur, hh, _⟩ := h.row
  exact frozen_of_row w g i _ _ hh
theorem OwnB.set {w : World} {g n cap : Nat} {l : List UInt8} (h : OwnB w (.slice (some ⟨g, 0, none⟩) n cap) l) (i : Nat) (hi : i < l.length) (x : UInt8) : OwnB (w.setCell ⟨g, i, none⟩ (B x)) (.slice (some ⟨g, 0, none⟩) n cap) (l.set i x) := by
  obtain ⟨cur, hh, hn, h1, h2, h3, ht⟩ := h.row
  refine ⟨by simp, .inr ⟨g, cap, cur.setIfInBounds i (B x), by rw [List.length_set, hn], Nat.zero_le _, heap_setCell_same w g i _ _ _ hh, by rw [List.length_set]; omega, h2, by rw [Array.size_setIfInBounds, h3, Nat.mul_one], ?_⟩⟩
  rw [Nat.mul_one, List.length_set, Array.toList_setIfInBounds, List.map_set, ← ht, ← hn, List.take_set]

theorem OwnB.part {w : World} {g n cap : Nat} {l : List UInt8} (h : OwnB w (.slice (some ⟨g, 0, none⟩) n cap) l) (k : Nat) (hk : k * 256 + 256 ≤ l.length) (c : Nat) (hc : 256 ≤ c) (hm : c ≤ maxLen) :
    BytesAt w (.slice (some ⟨g, k * 256, none⟩) 256 c) ((l.drop (k * 256)).take 256) := by
  have hl : ((l.drop (k * 256)).take 256).length = 256 := by rw [List.length_take, List.length_drop]; omega
  obtain ⟨cur, hh, _⟩ := h.row
  refine .inr ⟨g, k * 256, c, by rw [hl], by omega, hm, lt_of_heap hh, fun j u hj => ?_⟩
  have hjl : j < 256 := by
    have := (List.getElem?_eq_some_iff.1 hj).1
    rw [List.length_map] at this
    omega
  have hx : k * 256 + j < l.length := by omega
  rw [List.getElem?_map, List.getElem?_take_of_lt hjl, List.getElem?_drop, List.getElem?_eq_getElem hx] at hj
  rw [h.cell _ hx]
  exact hj
end Go.Proofs.YtojlojdkhegbkaaDoor

/-
  Arrays of bytes compared.
-/
namespace Go.Proofs.YtojlojdkhegbkaaDoor
set_option linter.unusedVariables false
set_option linter.unusedSimpArgs false
open Go.RowKit

theorem isAgg_u8 (w : World) : (isAgg 5).run Tryd.prog w = .ok false w := by kernel_rfl
theorem sizeOf_u8 (w : World) : (sizeOf 5).run Tryd.prog w = .ok 1 w := by kernel_rfl
theorem underlying_u8 : Tryd.prog.underlying 5 = some (.int .u8) := Tryd.underlying5
theorem run_equalIn_bytes (w : World) (d : Nat) {t : TypeId} {n : Nat} (hu : Tryd.prog.underlying t = some (.array n 5)) {l1 l2 : List UInt8} (h1 : l1.length = n) (h2 : l2.length = n) :
    (Op.equalIn (d + 2) t (.agg (l1.map B).toArray) (.agg (l2.map B).toArray)).run Tryd.prog w = .ok (l1 == l2) w := by
  rw [Op.equalIn]
  simp only [Sem.run_bind, run_underlying hu, Result.andThen_ok, sizeOf_u8, Nat.mul_one, Std.Legacy.Range.forIn_eq_forIn_range', Std.Legacy.Range.size]
  have hpart : ∀ (l : List UInt8) (k : Nat) (x : UInt8), l[k]? = some x → (part 5 (l.map B).toArray k).run Tryd.prog w = .ok (B x) w := fun l k x hx => by
    simp only [part, isAgg_u8, Sem.run_bind, Result.andThen_ok]
    simp [hx]
  have hsub : (n - 0 + 1 - 1) / 1 = n := by simp
  rw [hsub]
  have key : ∀ (k s : Nat), s + k = n → l1.take s = l2.take s →
      (forIn (List.range' s k) ((none, ()) : Option Bool × Unit) fun i _ => (do
        let a ← part 5 (l1.map B).toArray i
        let b ← part 5 (l2.map B).toArray i
        let e ← Op.equalIn (d + 1) 5 a b
        if (!e) = true then pure (ForInStep.done (some false, ())) else pure (ForInStep.yield (none, ())) : Sem (ForInStep (Option Bool × Unit)))).run Tryd.prog w = .ok (if l1 == l2 then none else some false, ()) w := by
    intro k
    induction k with
    | zero =>
      intro s hs ht
      rw [List.take_of_length_le (by omega), List.take_of_length_le (by omega)] at ht
      subst ht
      simp
    | succ k ih =>
      intro s hs ht
      have g1 : s < l1.length := by omega
      have g2 : s < l2.length := by omega
      have q1 := hpart l1 s l1[s] (List.getElem?_eq_getElem g1)
      have q2 := hpart l2 s l2[s] (List.getElem?_eq_getElem g2)
      rw [List.range'_succ, List.forIn_cons]
      simp only [Sem.run_bind, q1, q2, Result.andThen_ok, B, run_equalIn_int w d 5 .u8 .u8 _ _ underlying_u8]
      by_cases hx : l1[s] = l2[s]
      · have e : ((l1[s].toNat : Int) == (l2[s].toNat : Int)) = true := by rw [hx]; simp
        simp only [e, Bool.not_true, Bool.false_eq_true, if_false, Sem.run_pure, Result.andThen_ok]
        have h := ih (s + 1) (by omega) (by rw [List.take_succ_eq_append_getElem g1, List.take_succ_eq_append_getElem g2, ht, hx])
        simpa only [Sem.run_bind] using h
      · have e : ((l1[s].toNat : Int) == (l2[s].toNat : Int)) = false := by
          rw [beq_eq_false_iff_ne]
          intro h
          exact hx (UInt8.toNat_inj.1 (by omega))
        have hne : (l1 == l2) = false := by
          rw [beq_eq_false_iff_ne]
          intro h
          subst h
          exact hx rfl
        simp [e, hne]
  have h := key n 0 (by omega) (by simp)
  rw [h]
  cases l1 == l2 <;> simp
end Go.Proofs.YtojlojdkhegbkaaDoor

/-
  The disk (package disk) as a value, where it lies in memory, and small laws on that: no walk here.
-/
namespace Go.Proofs.YtojlojdkhegbkaaDoor
set_option linter.unusedVariables false
set_option linter.unusedSimpArgs false
open Go.RowKit

/-- A disk: its counts, the synced bytes of its n pages, its open writes, what it is armed with, its power, its epoch. -/
structure D where
  reads : Int
  writes : Int
  syncs : Int
  n : Nat
  img : List UInt8
  q : List (Nat × List UInt8)
  armed : Int
  dead : Bool
  epoch : Int

/-- The cells of the open writes. -/
def qCells (q : List (Nat × List UInt8)) : List Value := q.flatMap fun p => .int .i64 p.1 :: p.2.map B
/-- By page: the place of its last open write. -/
def newest (q : List (Nat × List UInt8)) : Int → Option Int := (q.zipIdx).foldl (fun f p => fun j => if j = (p.1.1 : Int) then some (p.2 : Int) else f j) (fun _ => none)

theorem newest_snoc (q : List (Nat × List UInt8)) (page : Nat) (data : List UInt8) : newest (q ++ [(page, data)]) = fun j => if j = (page : Int) then some (q.length : Int) else newest q j := by
  simp [newest, List.zipIdx_append]
theorem qCells_snoc (q : List (Nat × List UInt8)) (page : Nat) (data : List UInt8) : qCells (q ++ [(page, data)]) = qCells q ++ (.int .i64 page :: data.map B) := by simp [qCells]

def D.ok (d : D) : Prop := 3 ≤ d.n ∧ d.n ≤ 4096 ∧ d.img.length = 256 * d.n ∧ (∀ p ∈ d.q, p.1 < d.n ∧ p.2.length = 256) ∧ 0 ≤ d.armed ∧ d.armed ≤ 9223372036854775807

def dCells (d : D) (bp : Nat) (qv : Value) (bm : Nat) : Array Value :=
  #[.int .i64 d.reads, .int .i64 d.writes, .int .i64 d.syncs, .int .i64 d.q.length, .slice (some ⟨bp, 0, none⟩) d.n d.n, qv, .map (some bm), .int .i64 d.armed, .bool d.dead, .int .i64 d.epoch]

/-- The parts of a disk at block b: its pages in bp, its open writes in qv, its map in bm. -/
structure DiskIn (w : World) (b : Nat) (d : D) (bp : Nat) (qv : Value) (bm : Nat) : Prop where
  ok : d.ok
  root : w.heap[b]? = some (.cells (dCells d bp qv bm) 83 (0, 0))
  pages : w.heap[bp]? = some (.cells (d.img.map B).toArray 84 (0, 0))
  queue : w.ownsRow 0 86 257 qv d.q.length (qCells d.q)
  map : IMap Tryd.prog w 3 bm d.q.length (newest d.q)

/-- A disk lies at block b, over the blocks F. -/
def DiskAt (w : World) (b : Nat) (d : D) (F : List Nat) : Prop := ∃ bp qv bm, DiskIn w b d bp qv bm ∧ F = b :: bp :: bm :: qv.ownBlock.toList

section
variable {w w' : World} {b : Nat} {d : D} {F : List Nat} {bp bm : Nat} {qv : Value}

theorem DiskIn.keep (h : DiskIn w b d bp qv bm) (hb : ∀ k ∈ b :: bp :: bm :: qv.ownBlock.toList, w'.heap[k]? = w.heap[k]?) : DiskIn w' b d bp qv bm :=
  ⟨h.ok, (hb b (by simp)).trans h.root, (hb bp (by simp)).trans h.pages, ownsRow_keep h.queue (fun k hk => hb k (by simp [hk])), h.map.keep (hb bm (by simp))⟩
theorem DiskIn.lt (h : DiskIn w b d bp qv bm) : ∀ k ∈ b :: bp :: bm :: qv.ownBlock.toList, k < w.heap.size := by
  intro k hk
  simp only [List.mem_cons, Option.mem_toList] at hk
  rcases hk with rfl | rfl | rfl | hk
  · exact lt_of_heap h.root
  · exact lt_of_heap h.pages
  · exact h.map.lt
  · exact (h.queue.lt k hk).2
theorem DiskAt.lt (h : DiskAt w b d F) : ∀ k ∈ F, k < w.heap.size := by obtain ⟨_, _, _, h, rfl⟩ := h; exact h.lt
theorem DiskAt.ok (h : DiskAt w b d F) : d.ok := by obtain ⟨_, _, _, h, rfl⟩ := h; exact h.ok
theorem DiskAt.keep (h : DiskAt w b d F) (hb : ∀ k ∈ F, w'.heap[k]? = w.heap[k]?) : DiskAt w' b d F := by
  obtain ⟨bp, qv, bm, h, rfl⟩ := h
  exact ⟨bp, qv, bm, h.keep hb, rfl⟩
theorem DiskAt.keeps {G : List Nat} (h : DiskAt w b d F) (hk : Keeps G w w') (hd : ∀ k ∈ F, k ∉ G) : DiskAt w' b d F :=
  h.keep fun k hk' => hk.block k (h.lt k hk') (hd k hk')

/-- The four blocks are not one another. -/
theorem DiskIn.apart (h : DiskIn w b d bp qv bm) : b ≠ bp ∧ b ≠ bm ∧ bp ≠ bm ∧ ∀ g, qv.ownBlock = some g → b ≠ g ∧ bp ≠ g ∧ bm ≠ g := by
  obtain ⟨es, clock, hm⟩ : ∃ es clock, w.heap[bm]? = some (.map es clock) := by obtain ⟨_, ⟨es, clock, h, _⟩, _⟩ := h.map; exact ⟨es, clock, h⟩
  refine ⟨?_, ?_, ?_, ?_⟩
  · rintro rfl; have := h.root.symm.trans h.pages; simp at this
  · rintro rfl; have := h.root.symm.trans hm; simp at this
  · rintro rfl; have := h.pages.symm.trans hm; simp at this
  · intro g hg
    rcases h.queue.2 with ⟨rfl, _⟩ | ⟨g', cap, cur, rfl, _, hgg, _⟩
    · simp [Value.ownBlock] at hg
    · simp only [Value.ownBlock, Option.some.injEq] at hg
      subst hg
      refine ⟨?_, ?_, ?_⟩
      · rintro rfl; have := h.root.symm.trans hgg; simp at this
      · rintro rfl; have := h.pages.symm.trans hgg; simp at this
      · rintro rfl; have := hm.symm.trans hgg; simp at this

theorem DiskIn.form (h : DiskIn w b d bp qv bm) : ∃ aq cq, qv = .slice aq d.q.length cq := by
  rcases h.queue.2 with ⟨rfl, h0⟩ | ⟨g, cap, cur, rfl, _⟩
  · exact ⟨none, 0, by rw [h0]⟩
  · exact ⟨_, _, rfl⟩

theorem DiskIn.qlen (h : DiskIn w b d bp qv bm) : d.q.length ≤ 9223372036854775807 := by
  rcases h.queue.2 with ⟨_, h0⟩ | ⟨g, cap, cur, _, _, _, h1, h2, _⟩
  · omega
  · simp only [maxLen] at h2; omega

theorem DiskIn.qcap {aq : Option Addr} {cq : Nat} (h : DiskIn w b d bp (.slice aq d.q.length cq) bm) : d.q.length ≤ cq ∧ cq ≤ 9223372036854775807 := by
  rcases h.queue.2 with ⟨hv, h0⟩ | ⟨g, cap, cur, hv, _, _, h1, h2, _⟩
  · injection hv with _ _ e; omega
  · injection hv with _ _ e
    simp only [maxLen] at h2; omega

/-- A new disk. -/
def D.new (n : Nat) : D := { reads := 0, writes := 0, syncs := 0, n, img := List.replicate (256 * n) 0, q := [], armed := 0, dead := false, epoch := 0 }
def zPage : Value := .agg (Array.replicate 256 (.int .u8 0))
theorem info_page : (Tryd.prog.info? 84).map (fun i => (i.zero, i.size, i.bytes)) = some (some zPage, 256, 256) := by kernel_rfl
theorem size_page : (Tryd.prog.info? 84).map (·.size) = some 256 := by kernel_rfl


/-- An act: it counts towards the loss of power. -/
def D.act (d : D) : D := if d.armed = 0 then d else { d with armed := d.armed - 1, dead := decide (d.armed = 1) }
def D.write (d : D) (page : Nat) (data : List UInt8) : D := D.act { d with q := d.q ++ [(page, data)], writes := wrap64 (d.writes + 1) }
/-- A write as a variable: its cells. -/
def wCells (page : Nat) (data : List UInt8) : Array Value := (.int .i64 page :: data.map B).toArray
/-- The zero of a write as the loaded program has it, with its page's number. -/
noncomputable def zWrite (page : Int) : Array Value := Tryd.zeroCells86.setIfInBounds 0 (.int .i64 page)
theorem zWrite_zero : Tryd.zeroCells86 = #[.int .i64 0] ++ Array.replicate 256 (.int .u8 0) := by kernel_rfl
theorem zWrite_size (page : Int) : (zWrite page).size = 257 := by rw [zWrite, zWrite_zero]; simp
theorem zWrite_list (page : Int) : (zWrite page).toList = .int .i64 page :: List.replicate 256 (.int .u8 0) := by
  rw [zWrite, zWrite_zero]
  simp only [Array.toList_setIfInBounds, Array.toList_append, Array.toList_replicate]
  rfl
theorem zWrite_ones (page : Int) : (zWrite page).all (·.oneCell') = true := by
  rw [Array.all_eq_true_iff_forall_mem]
  intro v hv
  have hv' : v ∈ (zWrite page).toList := by simpa using hv
  rw [zWrite_list] at hv'
  rcases List.mem_cons.1 hv' with rfl | hv'
  · rfl
  · rw [List.eq_of_mem_replicate hv']; rfl
theorem size_write : (Tryd.prog.info? 86).map (·.size) = some 257 := by kernel_rfl
theorem run_store_write (page : Int) (w : World) : (Instr.storeAt 86 (.pointer (some ⟨w.heap.size, 0, none⟩)) (.agg (Tryd.zeroCells86.setIfInBounds 0 (.int .i64 page)))).run Tryd.prog (w.alloc (.cells Tryd.zeroCells86 86)) = .ok () (w.alloc (.cells (zWrite page) 86)) :=
  run_storeAt_new w 86 Tryd.zeroCells86 (zWrite page) (by rw [size_write, zWrite_size]) (by rw [zWrite_size, zWrite_zero]; simp) (zWrite_ones page)
theorem write_cells (page : Nat) {data : List UInt8} (hl : data.length = 256) : ((zWrite page).toList.take 1 ++ data.map B ++ (zWrite page).toList.drop (1 + (data.map B).length)).toArray = wCells page data := by
  rw [zWrite_list, wCells, List.length_map, hl]
  generalize hL : List.replicate 256 (Value.int .u8 0) = L
  have : L.length = 256 := by rw [← hL, List.length_replicate]
  rw [List.drop_of_length_le (by simp [this])]
  simp
theorem info_write : (Tryd.prog.info? 86).map (fun i => (i.zero, i.size, i.bytes)) = some (some (.agg Tryd.zeroCells86), 257, 264) := by kernel_rfl
theorem cells_zero_write : (Value.agg Tryd.zeroCells86).cells.size = 257 := Tryd.zeroCells86_size
attribute [irreducible] zWrite zPage

/-- The cells of the struct. -/
theorem DiskIn.cells (h : DiskIn w b d bp qv bm) :
    w.cell? ⟨b, 0, none⟩ = some (.int .i64 d.reads) ∧ w.cell? ⟨b, 1, none⟩ = some (.int .i64 d.writes) ∧ w.cell? ⟨b, 2, none⟩ = some (.int .i64 d.syncs) ∧ w.cell? ⟨b, 3, none⟩ = some (.int .i64 d.q.length) ∧
    w.cell? ⟨b, 4, none⟩ = some (.slice (some ⟨bp, 0, none⟩) d.n d.n) ∧ w.cell? ⟨b, 5, none⟩ = some qv ∧ w.cell? ⟨b, 6, none⟩ = some (.map (some bm)) ∧ w.cell? ⟨b, 7, none⟩ = some (.int .i64 d.armed) ∧
    w.cell? ⟨b, 8, none⟩ = some (.bool d.dead) ∧ w.cell? ⟨b, 9, none⟩ = some (.int .i64 d.epoch) := by
  refine ⟨?_, ?_, ?_, ?_, ?_, ?_, ?_, ?_, ?_, ?_⟩ <;> (rw [cell_of_row w b _ _ _ _ h.root]; rfl)
theorem DiskIn.free (h : DiskIn w b d bp qv bm) (j : Nat) : w.frozen? ⟨b, j, none⟩ = false := frozen_of_row w b j _ _ h.root
end


section
variable {w w' : World} {b : Nat} {d : D} {bp bm : Nat} {qv : Value}
/-- A store into the struct's own cell. -/
theorem root_set {cs : Array Value} (h : w.heap[b]? = some (.cells cs 83 (0, 0))) (j : Nat) (v : Value) : (w.setCell ⟨b, j, none⟩ v).heap[b]? = some (.cells (cs.setIfInBounds j v) 83 (0, 0)) := heap_setCell_same w b j cs _ v h

/-- The act at the end of Write and at the beginning of Sync, of a disk whose power is on. -/
theorem act_close (h : DiskIn w b d bp qv bm) (hd : d.dead = false) (hw : w' = if d.armed = 0 then w else (w.setCell ⟨b, 7, none⟩ (.int .i64 (d.armed - 1))).setCell ⟨b, 8, none⟩ (.bool (decide (d.armed = 1)))) :
    DiskIn w' b d.act bp qv bm ∧ Keeps [b] w w' := by
  by_cases h0 : d.armed = 0
  · rw [if_pos h0] at hw
    subst hw
    exact ⟨by simpa [D.act, h0] using h, Keeps.refl _ _⟩
  · rw [if_neg h0] at hw
    subst hw
    have hk : Keeps [b] w ((w.setCell ⟨b, 7, none⟩ (.int .i64 (d.armed - 1))).setCell ⟨b, 8, none⟩ (.bool (decide (d.armed = 1)))) := ((Keeps.refl _ _).setCell (.inl (by simp)) _).setCell (.inl (by simp)) _
    have hok := h.ok
    obtain ⟨a1, a2, a3, a4⟩ := h.apart
    have e : d.act = { d with armed := d.armed - 1, dead := decide (d.armed = 1) } := by simp [D.act, h0]
    rw [e]
    refine ⟨⟨?_, ?_, ?_, ?_, ?_⟩, hk⟩
    · obtain ⟨o1, o2, o3, o4, o5, o6⟩ := hok
      exact ⟨o1, o2, o3, o4, by simp only; omega, by simp only; omega⟩
    · exact root_set (root_set h.root 7 _) 8 _
    · exact (hk.block bp (lt_of_heap h.pages) (by simpa using Ne.symm a1)).trans h.pages
    · exact ownsRow_keep h.queue (fun k hq => hk.block k (h.queue.lt k hq).2 (by simpa using Ne.symm (a4 k hq).1))
    · exact h.map.keep (hk.block bm h.map.lt (by simpa using Ne.symm a2))

theorem D.act_q (d : D) : d.act.q = d.q := by unfold D.act; split <;> rfl
theorem D.act_n (d : D) : d.act.n = d.n := by unfold D.act; split <;> rfl
theorem D.act_img (d : D) : d.act.img = d.img := by unfold D.act; split <;> rfl
theorem D.act_reads (d : D) : d.act.reads = d.reads := by unfold D.act; split <;> rfl
theorem D.act_writes (d : D) : d.act.writes = d.writes := by unfold D.act; split <;> rfl
theorem D.act_syncs (d : D) : d.act.syncs = d.syncs := by unfold D.act; split <;> rfl
theorem D.act_epoch (d : D) : d.act.epoch = d.epoch := by unfold D.act; split <;> rfl

/-- One cell of the struct is written. -/
theorem DiskIn.setc (h : DiskIn w b d bp qv bm) (d' : D) (j : Nat) (v : Value) (himg : d'.img = d.img) (hq : d'.q = d.q) (ok : d'.ok) (hc : dCells d' bp qv bm = (dCells d bp qv bm).setIfInBounds j v) :
    DiskIn (w.setCell ⟨b, j, none⟩ v) b d' bp qv bm := by
  have hk : Keeps [b] w (w.setCell ⟨b, j, none⟩ v) := (Keeps.refl _ _).setCell (.inl (by simp)) _
  obtain ⟨a1, a2, a3, a4⟩ := h.apart
  refine ⟨ok, ?_, ?_, ?_, ?_⟩
  · rw [hc]; exact root_set h.root j v
  · rw [himg]; exact (hk.block bp (lt_of_heap h.pages) (by simpa using Ne.symm a1)).trans h.pages
  · rw [hq]; exact ownsRow_keep h.queue (fun k hq => hk.block k (h.queue.lt k hq).2 (by simpa using Ne.symm (a4 k hq).1))
  · rw [hq]; exact h.map.keep (hk.block bm h.map.lt (by simpa using Ne.symm a2))
theorem DiskIn.keeps {G : List Nat} (h : DiskIn w b d bp qv bm) (hk : Keeps G w w') (hd : ∀ k ∈ b :: bp :: bm :: qv.ownBlock.toList, k ∉ G) : DiskIn w' b d bp qv bm :=
  h.keep fun k hk' => hk.block k (h.lt k hk') (hd k hk')

/-- Behind the stores of Write. -/
theorem write_close {d1 : D} {qv' : Value} (hok : d1.ok) (hroot : w.heap[b]? = some (.cells (dCells d bp qv bm) 83 (0, 0))) (hpg : w.heap[bp]? = some (.cells (d.img.map B).toArray 84 (0, 0)))
    (hq : w.ownsRow 0 86 257 qv' d1.q.length (qCells d1.q)) (hm : IMap Tryd.prog w 3 bm d1.q.length (newest d1.q)) (hbp : b ≠ bp) (hbm : b ≠ bm) (hbq : qv'.ownBlock ≠ some b) (n1 n3 : Int)
    (he : d1 = { d with q := d1.q, writes := n1 }) (h3 : n3 = d1.q.length) :
    DiskIn (((w.setCell ⟨b, 5, none⟩ qv').setCell ⟨b, 1, none⟩ (.int .i64 n1)).setCell ⟨b, 3, none⟩ (.int .i64 n3)) b d1 bp qv' bm := by
  have hk : Keeps [b] w (((w.setCell ⟨b, 5, none⟩ qv').setCell ⟨b, 1, none⟩ (.int .i64 n1)).setCell ⟨b, 3, none⟩ (.int .i64 n3)) := (((Keeps.refl _ _).setCell (.inl (by simp)) _).setCell (.inl (by simp)) _).setCell (.inl (by simp)) _
  subst h3
  rw [he] at hok hq hm ⊢
  refine ⟨hok, ?_, ?_, ?_, ?_⟩
  · exact root_set (root_set (root_set hroot 5 _) 1 _) 3 _
  · exact (hk.block bp (lt_of_heap hpg) (by simpa using Ne.symm hbp)).trans hpg
  · exact ownsRow_keep hq (fun k hq' => hk.block k (hq.lt k hq').2 (by simp only [List.mem_singleton]; rintro rfl; exact hbq hq'))
  · exact hm.keep (hk.block bm hm.lt (by simpa using Ne.symm hbm))
end


/-- As things. -/
def diskThing (b : Nat) (d : D) (F : List Nat) : Thing := ⟨F, fun w => DiskAt w b d F, fun _ _ h hk => h.keep hk, fun _ h => h.lt⟩

/-- The synced bytes of a page; what it reads. -/
def D.page (d : D) (p : Nat) : List UInt8 := (d.img.drop (p * 256)).take 256
def D.read (d : D) (p : Nat) : List UInt8 := match newest d.q p with
  | some i => (d.q.getD i.toNat (0, [])).2
  | none => d.page p

theorem newest_some {q : List (Nat × List UInt8)} {p : Nat} {i : Int} (h : newest q p = some i) : 0 ≤ i ∧ i < q.length ∧ (q.getD i.toNat (0, [])).1 = p := by
  suffices hs : ∀ r : List (Nat × List UInt8), ∀ i, newest r.reverse p = some i → 0 ≤ i ∧ i < r.reverse.length ∧ (r.reverse.getD i.toNat (0, [])).1 = p by
    have := hs q.reverse i (by simpa using h)
    simpa using this
  intro r
  induction r with
  | nil => intro i h; simp [newest] at h
  | cons x r ih =>
    intro i h
    obtain ⟨x1, x2⟩ := x
    simp only [List.reverse_cons] at h ⊢
    rw [newest_snoc] at h
    by_cases e : (p : Int) = x1
    · simp only [e, if_true, Option.some.injEq] at h
      subst h
      refine ⟨by omega, by simp; omega, ?_⟩
      simp
      omega
    · simp only [e, if_false] at h
      obtain ⟨h1, h2, h3⟩ := ih i h
      refine ⟨h1, by simp at h2 ⊢; omega, ?_⟩
      rw [List.getD_eq_getElem?_getD, List.getElem?_append_left (by omega), ← List.getD_eq_getElem?_getD]
      exact h3
theorem D.read_length {d : D} (h : d.ok) {p : Nat} (hp : p < d.n) : (d.read p).length = 256 := by
  unfold D.read
  obtain ⟨o1, o2, o3, o4, o5, o6⟩ := h
  split
  · rename_i i hi
    obtain ⟨h1, h2, h3⟩ := newest_some hi
    have hl : i.toNat < d.q.length := by omega
    rw [List.getD_eq_getElem?_getD, List.getElem?_eq_getElem hl]
    exact (o4 _ (List.getElem_mem hl)).2
  · simp [D.page, o3]
    omega
theorem qCells_at {q : List (Nat × List UInt8)} (hq : ∀ p ∈ q, p.2.length = 256) {i : Nat} (hi : i < q.length) : ∃ xs zs, qCells q = xs ++ (.int .i64 q[i].1 :: q[i].2.map B) ++ zs ∧ xs.length = i * 257 := by
  refine ⟨qCells (q.take i), qCells (q.drop (i + 1)), ?_, ?_⟩
  · have e : q = q.take i ++ q[i] :: q.drop (i + 1) := by simp
    have e2 := congrArg qCells e
    simp only [qCells, List.flatMap_append, List.flatMap_cons] at e2 ⊢
    rw [← List.append_assoc] at e2
    exact e2
  · have : ∀ r : List (Nat × List UInt8), (∀ p ∈ r, p.2.length = 256) → (qCells r).length = r.length * 257 := by
      intro r
      induction r with
      | nil => simp [qCells]
      | cons x r ih =>
        intro h
        have h1 := ih (fun p hp => h p (by simp [hp]))
        have h2 := h x (by simp)
        simp only [qCells, List.flatMap_cons, List.length_append, List.length_cons, List.length_map] at h1 ⊢
        omega
    rw [this _ (fun p hp => hq p (List.mem_of_mem_take hp))]
    simp
    omega

/-- The cells of one open write, in the queue's row. -/
theorem queue_range {w : World} {q : List (Nat × List UInt8)} {gq cq : Nat} (h : w.ownsRow 0 86 257 (.slice (some ⟨gq, 0, none⟩) q.length cq) q.length (qCells q)) (hq : ∀ p ∈ q, p.2.length = 256) {i : Nat} (hi : i < q.length) :
    w.rangeAt gq (i * 257) (.int .i64 q[i].1 :: q[i].2.map B) := by
  rcases h.2 with ⟨hv, _⟩ | ⟨g, cap, cur, hv, _, hh, hle, _, hsz, htk⟩
  · cases hv
  · injection hv with e _ _
    injection e with e
    injection e with e
    subst e
    obtain ⟨xs, zs, hx, hxl⟩ := qCells_at hq hi
    obtain ⟨T, hT⟩ : ∃ T, T = cur.toList.drop (q.length * 257) := ⟨_, rfl⟩
    have hcur : cur = (xs ++ (Value.int .i64 (q[i].1 : Int) :: q[i].2.map B) ++ (zs ++ T)).toArray := by
      apply Array.ext'
      have e1 := List.take_append_drop (q.length * 257) cur.toList
      rw [htk, hx, ← hT] at e1
      rw [← e1]
      simp
    rw [hcur] at hh
    have := rangeAt_part hh
    rwa [hxl] at this
theorem run_store_w {l : List Value} (h : l.length = 257) (h1 : ∀ v ∈ l, v.oneCell' = true) (w : World) {n : Nat} (hn : n = w.heap.size) : (Instr.storeAt 86 (.pointer (some ⟨n, 0, none⟩)) (.agg l.toArray)).run Tryd.prog (w.alloc (.cells Tryd.zeroCells86 86)) = .ok () (w.alloc (.cells l.toArray 86)) := by
  subst hn
  exact run_storeAt_new w 86 Tryd.zeroCells86 l.toArray (by rw [size_write]; simp [h]) (by rw [Tryd.zeroCells86_size]; simp [h]) (all_oneCell_toArray h1)

end Go.Proofs.YtojlojdkhegbkaaDoor

/-
  The walks of package disk's small functions.
-/
namespace Go.Proofs.YtojlojdkhegbkaaDoor
set_option linter.unusedVariables false
set_option linter.unusedSimpArgs false
open Go.RowKit

theorem dHas_any {w : World} {b bp n cap : Nat} (page : Int) (hp : w.cell? ⟨b, 4, none⟩ = some (.slice (some ⟨bp, 0, none⟩) n cap)) :
    Calls Tryd.prog 70 #[.pointer (some ⟨b, 0, none⟩), .int .i64 page] w fun e w' => e = .returned (.bool (decide (0 ≤ page) && decide (page < n))) ∧ w = w' := by
  by_cases h : 0 ≤ page
  all_goals
    go_enter Tryd.func70, Tryd.ntmps70
    go_wp2
    go_ret
    exact ⟨by first | (simp [h]; done) | (simp; omega), rfl⟩

theorem dPages_any {w : World} {b bp n cap : Nat} (hp : w.cell? ⟨b, 4, none⟩ = some (.slice (some ⟨bp, 0, none⟩) n cap)) :
    Calls Tryd.prog 42 #[.pointer (some ⟨b, 0, none⟩)] w fun e w' => e = .returned (.int .i64 n) ∧ w = w' := by
  go_enter Tryd.func42, Tryd.ntmps42
  go_wp2
  go_ret
  exact ⟨rfl, rfl⟩
theorem dPower_any {w : World} {b : Nat} {d : Bool} (hp : w.cell? ⟨b, 8, none⟩ = some (.bool d)) :
    Calls Tryd.prog 40 #[.pointer (some ⟨b, 0, none⟩)] w fun e w' => e = .returned (.bool (!d)) ∧ w = w' := by
  go_enter Tryd.func40, Tryd.ntmps40
  go_wp2
  go_ret
  exact ⟨rfl, rfl⟩
theorem dEpoch_any {w : World} {b : Nat} {n : Int} (hp : w.cell? ⟨b, 9, none⟩ = some (.int .i64 n)) :
    Calls Tryd.prog 49 #[.pointer (some ⟨b, 0, none⟩)] w fun e w' => e = .returned (.int .i64 n) ∧ w = w' := by
  go_enter Tryd.func49, Tryd.ntmps49
  go_wp2
  go_ret
  exact ⟨rfl, rfl⟩
theorem dClaim_any {w : World} {b : Nat} {n : Int} (hp : w.cell? ⟨b, 9, none⟩ = some (.int .i64 n)) (hf : w.frozen? ⟨b, 9, none⟩ = false) :
    Calls Tryd.prog 61 #[.pointer (some ⟨b, 0, none⟩)] w fun e w' => e = .returned (.int .i64 (wrap64 (n + 1))) ∧ w' = w.setCell ⟨b, 9, none⟩ (.int .i64 (wrap64 (n + 1))) := by
  go_enter Tryd.func61, Tryd.ntmps61
  go_wp2
  go_ret
  exact ⟨rfl, rfl⟩
theorem dAct_any {w : World} {b : Nat} {n : Int} {dd : Bool} (h7 : w.cell? ⟨b, 7, none⟩ = some (.int .i64 n)) (h8 : w.cell? ⟨b, 8, none⟩ = some (.bool dd)) (f7 : w.frozen? ⟨b, 7, none⟩ = false) (f8 : w.frozen? ⟨b, 8, none⟩ = false) (l0 : 0 ≤ n) (l1 : n ≤ 9223372036854775807) :
    Calls Tryd.prog 27 #[.pointer (some ⟨b, 0, none⟩)] w fun e w' => e = .returned (.int .i64 (if n = 1 then 2 else 0)) ∧ w' = if n = 0 then w else (w.setCell ⟨b, 7, none⟩ (.int .i64 (n - 1))).setCell ⟨b, 8, none⟩ (.bool (decide (n = 1))) := by
  by_cases h : n = 0
  · have h' : (n == 0) = true := by simp [h]
    subst h
    go_enter Tryd.func27, Tryd.ntmps27
    go_wp2
    go_ret
    exact ⟨rfl, rfl⟩
  · have h' : (n == 0) = false := by simp [h]
    by_cases h1 : n = 1
    · subst h1
      go_enter Tryd.func27, Tryd.ntmps27
      go_wp2
      go_ret
      exact ⟨rfl, rfl⟩
    · have h'' : (n - 1 == 0) = false := by simp; omega
      go_enter Tryd.func27, Tryd.ntmps27
      go_wp2
      go_ret
      exact ⟨by simp [h1], by simp [h, h1]⟩
theorem dClose_any {w : World} {b bm n : Nat} {f : Int → Option Int} {qv : Value} {o : Int} (h5 : w.cell? ⟨b, 5, none⟩ = some qv) (h6 : w.cell? ⟨b, 6, none⟩ = some (.map (some bm))) (h3 : w.cell? ⟨b, 3, none⟩ = some (.int .i64 o))
    (f5 : w.frozen? ⟨b, 5, none⟩ = false) (f3 : w.frozen? ⟨b, 3, none⟩ = false) (hm : IMap Tryd.prog w 3 bm n f) (hb : b ≠ bm) :
    Calls Tryd.prog 28 #[.pointer (some ⟨b, 0, none⟩)] w fun e w' => e = .returned (.tuple #[]) ∧ ∃ w1, (w.setCell ⟨b, 5, none⟩ (.slice none 0 0)).grownBy w1 (some bm) ∧ IMap Tryd.prog w1 3 bm 0 (fun _ => none) ∧ w' = w1.setCell ⟨b, 3, none⟩ (.int .i64 0) := by
  have hlt := World.block_lt_of_cell? w _ h3
  obtain ⟨w1, hrun, hmap, hg, hs⟩ := (IMap.keep (w' := w.setCell ⟨b, 5, none⟩ (.slice none 0 0)) hm (Below.heap_setCell _ _ _ _ (Ne.symm hb))).clear (tm := 81) Tryd.underlying81
  have g3 : w1.cell? ⟨b, 3, none⟩ = some (.int .i64 o) := by
    rw [hg.cell_far _ (by simpa using hlt) (by simpa using hb), cell_set_off _ (by omega)]; exact h3
  have k3 : w1.frozen? ⟨b, 3, none⟩ = false := by
    rw [hg.frozen_far _ (by simpa using hlt) (by simpa using hb)]; simpa using f3
  have HG := Lib.hid hg
  have HM := Lib.hid hmap
  clear hm hs hg hmap
  go_enter Tryd.func28, Tryd.ntmps28
  go_wp2_with fail
  go_end0
  exact ⟨rfl, w1, HG.out, HM.out, rfl⟩

theorem dArm_any {w : World} {b : Nat} {n : Int} {dd : Bool} {o : Int} (h7 : w.cell? ⟨b, 7, none⟩ = some (.int .i64 o)) (h8 : w.cell? ⟨b, 8, none⟩ = some (.bool dd)) (f7 : w.frozen? ⟨b, 7, none⟩ = false) :
    Calls Tryd.prog 9 #[.pointer (some ⟨b, 0, none⟩), .int .i64 n] w fun e w' => e = .returned (.tuple #[]) ∧ w' = if dd then w else w.setCell ⟨b, 7, none⟩ (.int .i64 (max n 0)) := by
  cases dd
  · go_enter Tryd.func9, Tryd.ntmps9
    go_wp2_with fail
    all_goals go_end0
    · exact ⟨rfl, by rw [show max n 0 = 0 from by omega]⟩
    · exact ⟨rfl, by rw [show max n 0 = n from by omega]⟩
  · go_enter Tryd.func9, Tryd.ntmps9
    go_wp2_with fail
    go_end0
    exact ⟨rfl, rfl⟩
theorem dNew_no {w : World} (n : Int) (h : n < 3 ∨ 4096 < n) :
    Calls Tryd.prog 21 #[.int .i64 n] w fun e w' => e = .returned (.tuple #[.pointer none, .int .i64 40]) ∧ w = w' := by
  rcases h with h | h
  · go_enter Tryd.func21, Tryd.ntmps21
    go_wp2
    go_ret2
    exact ⟨rfl, rfl⟩
  · have h' : ¬ n < 3 := by omega
    go_enter Tryd.func21, Tryd.ntmps21
    go_wp2
    go_ret2
    exact ⟨rfl, rfl⟩
theorem dNew_yes {w : World} (n : Nat) (h : 3 ≤ n) (h2 : n ≤ 4096) :
    Calls Tryd.prog 21 #[.int .i64 n] w fun e w' => e = .returned (.tuple #[.pointer (some ⟨w.heap.size + 2, 0, none⟩), .int .i64 0]) ∧ Keeps [] w w' ∧ ∃ F, DiskAt w' (w.heap.size + 2) (D.new n) F ∧ From w [] F := by
  have h' : ¬ (n : Int) < 3 := by omega
  have h2' : ¬ 4096 < (n : Int) := by omega
  have hmm := @run_makeMap Tryd.prog
  obtain ⟨i, hi, hz0, hz1, hz2⟩ := info_parts info_page
  have hmk := run_make (P := Tryd.prog) w 79 84 i _ Tryd.underlying79 hi hz0 .i64 .i64 n n (by omega) (Int.le_refl _) (by rw [hz2]; omega) (by omega)
  simp only [zPage, Value.cells, hz1, Int.toNat_natCast, madeCells_same 256 _ _ (by omega)] at hmk
  obtain ⟨Z, hZ⟩ : ∃ Z, Z = (List.replicate (n * 256) (Value.int .u8 0)).toArray := ⟨_, rfl⟩
  rw [← hZ] at hmk
  have HZ := Lib.hid hZ
  have HI := Lib.hid hi
  clear hi hz0 hz1 hz2 hZ
  go_enter Tryd.func21, Tryd.ntmps21
  go_wp2_with fail
  go_ret2
  refine ⟨rfl, (((Keeps.refl _ _).alloc _).alloc _).alloc _, [w.heap.size + 2, w.heap.size, w.heap.size + 1], ⟨w.heap.size, .slice none 0 0, w.heap.size + 1, ⟨?_, ?_, ?_, ?_, ?_⟩, rfl⟩, ?_⟩
  · exact ⟨h, h2, by simp [D.new], by simp [D.new], by simp [D.new], by simp [D.new]⟩
  · exact heap_new_at (by simp)
  · rw [heap_old_at (by simp; omega), heap_old_at (by simp), heap_new_at rfl, HZ.out]
    simp [D.new, B, Nat.mul_comm]
  · exact World.ownsRow_nil _ _ _ _
  · refine IMap_empty 0 rfl ?_
    rw [heap_old_at (by simp), heap_new_at (by simp)]
  · intro k hk
    simp only [List.mem_cons, List.not_mem_nil, or_false] at hk
    omega
end Go.Proofs.YtojlojdkhegbkaaDoor

/-
  The walk of package disk's Read.
-/
namespace Go.Proofs.YtojlojdkhegbkaaDoor
set_option linter.unusedVariables false
set_option linter.unusedSimpArgs false
open Go.RowKit

theorem dRead_down {w : World} {b : Nat} {page : Int} (h8 : w.cell? ⟨b, 8, none⟩ = some (.bool true)) :
    Calls Tryd.prog 56 #[.pointer (some ⟨b, 0, none⟩), .int .i64 page] w fun e w' => e = .returned (.tuple #[.slice none 0 0, .int .i64 2]) ∧ w = w' := by
  go_enter Tryd.func56, Tryd.ntmps56
  go_wp2_with fail
  go_ret2
  exact ⟨rfl, rfl⟩
theorem dRead_page {w : World} {b bp n cap : Nat} {page : Int} (h4 : w.cell? ⟨b, 4, none⟩ = some (.slice (some ⟨bp, 0, none⟩) n cap)) (h8 : w.cell? ⟨b, 8, none⟩ = some (.bool false)) (hp : page < 0 ∨ (n : Int) ≤ page) :
    Calls Tryd.prog 56 #[.pointer (some ⟨b, 0, none⟩), .int .i64 page] w fun e w' => e = .returned (.tuple #[.slice none 0 0, .int .i64 41]) ∧ w = w' := by
  have hd : (decide (0 ≤ page) && decide (page < n)) = false := by simp; omega
  have c := dHas_any page h4
  rw [hd] at c
  go_enter Tryd.func56, Tryd.ntmps56
  go_wp2_with (go_at_call 70; refine c.mono ?_; rintro e w' ⟨rfl, rfl⟩)
  go_ret2
  exact ⟨rfl, rfl⟩

theorem page_split {d : D} (h : d.ok) {p : Nat} (hp : p < d.n) : ∃ xs zs, d.img = xs ++ d.page p ++ zs ∧ xs.length = p * 256 := by
  refine ⟨d.img.take (p * 256), d.img.drop ((p + 1) * 256), ?_, ?_⟩
  · simp only [D.page]
    rw [← List.take_add, Nat.add_mul, Nat.one_mul, List.take_append_drop]
  · have := h.2.2.1
    simp
    omega
theorem page_length {d : D} (h : d.ok) {p : Nat} (hp : p < d.n) : (d.page p).length = 256 := by
  have := h.2.2.1
  simp [D.page]
  omega
theorem page_range {w : World} {bp : Nat} {d : D} (h : w.heap[bp]? = some (.cells (d.img.map B).toArray 84 (0, 0))) (ho : d.ok) {p : Nat} (hp : p < d.n) : w.rangeAt bp (p * 256) ((d.page p).map B) := by
  obtain ⟨xs, zs, e, hl⟩ := page_split ho hp
  rw [← hl]
  rw [e, List.map_append, List.map_append] at h
  have := rangeAt_part h
  rwa [List.length_map] at this
theorem size_page_of {l : List UInt8} (h : l.length = 256) : (Tryd.prog.info? 84).map (·.size) = some (l.map B).length := by rw [size_page, List.length_map, h]
theorem run_store_page {l : List UInt8} (h : l.length = 256) (w : World) {n : Nat} (hn : n = w.heap.size) : (Instr.storeAt 84 (.pointer (some ⟨n, 0, none⟩)) (.agg (l.map B).toArray)).run Tryd.prog (w.alloc (.cells Tryd.zeroCells84 84)) = .ok () (w.alloc (.cells (l.map B).toArray 84)) := by
  subst hn
  exact run_storeAt_new w 84 Tryd.zeroCells84 (l.map B).toArray (by rw [size_page]; simp [h]) (by rw [Tryd.zeroCells84_size]; simp [h]) (all_oneCell_toArray (B_one l))
theorem run_store_page2 {l l2 : List UInt8} (h : l.length = 256) (h2 : l2.length = 256) (w : World) {n : Nat} (hn : n = w.heap.size) : (Instr.storeAt 84 (.pointer (some ⟨n, 0, none⟩)) (.agg (l.map B).toArray)).run Tryd.prog (w.alloc (.cells (l2.map B).toArray 84)) = .ok () (w.alloc (.cells (l.map B).toArray 84)) := by
  subst hn
  exact run_storeAt_new w 84 (l2.map B).toArray (l.map B).toArray (by rw [size_page]; simp [h]) (by simp [h, h2]) (all_oneCell_toArray (B_one l))

set_option maxRecDepth 100000 in
set_option maxHeartbeats 1200000 in
theorem dRead_ok {w : World} {b : Nat} {d : D} {bp bm : Nat} {qv : Value} (page : Nat) (hI : DiskIn w b d bp qv bm) (hd : d.dead = false) (hp : page < d.n) :
    Calls Tryd.prog 56 #[.pointer (some ⟨b, 0, none⟩), .int .i64 page] w fun e w' => ∃ g cap, e = .returned (.tuple #[.slice (some ⟨g, 0, none⟩) 256 cap, .int .i64 0]) ∧ w.heap.size ≤ g ∧
      OwnB w' (.slice (some ⟨g, 0, none⟩) 256 cap) (d.read page) ∧ DiskIn w' b { d with reads := wrap64 (d.reads + 1) } bp qv bm ∧ Keeps [b] w w' := by
  obtain ⟨c0, c1, c2, c3, c4, c5, c6, c7, c8, c9⟩ := hI.cells
  rw [hd] at c8
  have f0 := hI.free 0
  have hok := hI.ok
  obtain ⟨a1, a2, a3, a4⟩ := hI.apart
  have hp0 : (0 : Int) ≤ (page : Int) := Int.natCast_nonneg _
  have hp1 : (page : Int) < (d.n : Int) := by omega
  have hh := dHas_any (page : Int) c4
  rw [show (decide (0 ≤ (page : Int)) && decide ((page : Int) < d.n)) = true by simp [hp]] at hh
  have hbl := lt_of_heap hI.root
  have hpl := lt_of_heap hI.pages
  have hk1 : Keeps [b] w (w.setCell ⟨b, 0, none⟩ (.int .i64 (wrap64 (d.reads + 1)))) := (Keeps.refl _ _).setCell (.inl (by simp)) _
  have pages1 : (w.setCell ⟨b, 0, none⟩ (.int .i64 (wrap64 (d.reads + 1)))).heap[bp]? = some (.cells (d.img.map B).toArray 84 (0, 0)) := (hk1.block bp hpl (by simpa using Ne.symm a1)).trans hI.pages
  have hr1 := page_range pages1 hok hp
  have hpg := page_length hok hp
  have hk2 : Keeps [b] w ((w.setCell ⟨b, 0, none⟩ (.int .i64 (wrap64 (d.reads + 1)))).alloc (.cells ((d.page page).map B).toArray 84)) := hk1.alloc _
  have hmap2 : IMap Tryd.prog ((w.setCell ⟨b, 0, none⟩ (.int .i64 (wrap64 (d.reads + 1)))).alloc (.cells ((d.page page).map B).toArray 84)) 3 bm d.q.length (newest d.q) := hI.map.keep (hk2.block bm hI.map.lt (by simpa using Ne.symm a2))
  have hlook := hmap2.look (tm := 81) Tryd.underlying3 Tryd.underlying81 (by kernel_rfl) (show (Lit.int .i64 (page : Int)).wf = true from WalkArith.wf_i64 (by unfold D.ok at hok; omega))
  have HMAP := Lib.hid hmap2
  have HPG := Lib.hid pages1
  have HK1 := Lib.hid hk1
  have HK2 := Lib.hid hk2
  have HD := Lib.hid hd
  clear hmap2 pages1 hk1 hk2 hd
  obtain ⟨aq, cq, rfl⟩ := hI.form
  cases hnew : newest d.q page with
  | none =>
    rw [hnew] at hlook
    simp only [Option.getD_none, Option.isSome_none] at hlook
    have HN := Lib.hid hnew
    clear hnew
    go_enter Tryd.func56, Tryd.ntmps56
    go_wp2_with (first | (go_at_call 70; refine hh.mono ?_; rintro e w' ⟨rfl, rfl⟩) | (refine wl_load rfl 84 (.tmp 31) rfl ?_; refine ⟨_, _, run_loadAt_mid _ _ _ _ _ _ hr1 Tryd.underlying84 rfl (size_page_of hpg), ?_⟩; try simp only [Act.put, List.setIfInBounds_toArray, List.set_cons_zero, List.set_cons_succ, List.getElem_toArray, List.getElem_cons_zero, List.getElem_cons_succ]) | (refine wl_store rfl 84 (.tmp 6) (.tmp 32) rfl ?_; refine ⟨_, run_store_page hpg _ (by simp), ?_⟩; try simp only [Act.put, List.setIfInBounds_toArray, List.set_cons_zero, List.set_cons_succ, List.getElem_toArray, List.getElem_cons_zero, List.getElem_cons_succ]) | (refine wl_append_nil rfl (.const (.slice none 0 0)) (.tmp 51) rfl rfl rfl (d.page page) hpg (by omega) (rangeAt_all (heap_new_at (by simp))) (by omega) ?_))
    intro cap w4 h1 h2 h3
    go_wp2_with fail
    go_ret2
    refine ⟨w.heap.size + 1, cap, rfl, by omega, ?_, ?_, HK2.out.grown h2 (by simp)⟩
    · unfold D.read; rw [HN.out]; exact h1
    · exact (hI.setc { d with reads := wrap64 (d.reads + 1) } 0 _ rfl rfl hok rfl).keeps (((Keeps.refl [] _).alloc _).grown h2 (by simp)) (by simp)
  | some i =>
    obtain ⟨i0, i1, i2⟩ := newest_some hnew
    obtain ⟨i, rfl⟩ := Int.eq_ofNat_of_zero_le i0
    have hil : i < d.q.length := by simpa using i1
    rw [hnew] at hlook
    simp only [Option.getD_some, Option.isSome_some] at hlook
    have hrd : d.read page = d.q[i].2 := by unfold D.read; rw [hnew]; simp [List.getD_eq_getElem?_getD, List.getElem?_eq_getElem hil]
    have hrl : d.q[i].2.length = 256 := (hok.2.2.2.1 _ (List.getElem_mem hil)).2
    obtain ⟨gq, rfl⟩ : ∃ gq, aq = some ⟨gq, 0, none⟩ := by
      rcases hI.queue.2 with ⟨_, h0⟩ | ⟨g, cap, cur, hv, _⟩
      · omega
      · injection hv with e _ _
        exact ⟨g, e⟩
    have hgq : b ≠ gq := (a4 gq rfl).1
    have hrq : ((w.setCell ⟨b, 0, none⟩ (.int .i64 (wrap64 (d.reads + 1)))).alloc (.cells ((d.page page).map B).toArray 84)).rangeAt gq (i * 257 + 1) (d.q[i].2.map B) := by
      have hlt := (hI.queue.lt gq rfl).2
      refine rangeAt_of_heap (w := w) ?_ (HK2.out.block gq hlt (by simpa using Ne.symm hgq))
      rcases hI.queue.2 with ⟨hv, _⟩ | ⟨g, cap, cur, hv, _, hh, hle, _, hsz, htk⟩
      · cases hv
      · injection hv with e _ _
        injection e with e
        injection e with e
        subst e
        obtain ⟨xs, zs, hx, hxl⟩ := qCells_at (fun p hp => (hok.2.2.2.1 p hp).2) hil
        obtain ⟨T, hT⟩ : ∃ T, T = cur.toList.drop (d.q.length * 257) := ⟨_, rfl⟩
        have hcur : cur = ((xs ++ [Value.int .i64 (d.q[i].1 : Int)]) ++ d.q[i].2.map B ++ (zs ++ T)).toArray := by
          apply Array.ext'
          have e1 := List.take_append_drop (d.q.length * 257) cur.toList
          rw [htk, hx, ← hT] at e1
          rw [← e1]
          simp
        rw [hcur] at hh
        have := rangeAt_part hh
        simpa [hxl] using this
    have hi0 : (0 : Int) ≤ (i : Int) := Int.natCast_nonneg _
    have hi1 : (i : Int) < (d.q.length : Int) := by omega
    have HN := Lib.hid hnew
    have HRD := Lib.hid hrd
    clear hnew hrd i0 i1 i2
    go_enter Tryd.func56, Tryd.ntmps56
    go_wp2_with (first | (go_at_call 70; refine hh.mono ?_; rintro e w' ⟨rfl, rfl⟩) | (refine wl_load rfl 84 (.tmp 31) rfl ?_; refine ⟨_, _, run_loadAt_mid _ _ _ _ _ _ hr1 Tryd.underlying84 rfl (size_page_of hpg), ?_⟩; try simp only [Act.put, List.setIfInBounds_toArray, List.set_cons_zero, List.set_cons_succ, List.getElem_toArray, List.getElem_cons_zero, List.getElem_cons_succ]) | (refine wl_store rfl 84 (.tmp 6) (.tmp 32) rfl ?_; refine ⟨_, run_store_page hpg _ (by simp), ?_⟩; try simp only [Act.put, List.setIfInBounds_toArray, List.set_cons_zero, List.set_cons_succ, List.getElem_toArray, List.getElem_cons_zero, List.getElem_cons_succ]) | (refine wl_load rfl 84 (.tmp 49) rfl ?_; refine ⟨_, _, run_loadAt_mid _ _ _ _ _ _ hrq Tryd.underlying84 rfl (size_page_of hrl), ?_⟩; try simp only [Act.put, List.setIfInBounds_toArray, List.set_cons_zero, List.set_cons_succ, List.getElem_toArray, List.getElem_cons_zero, List.getElem_cons_succ]) | (refine wl_store rfl 84 (.tmp 6) (.tmp 50) rfl ?_; refine ⟨_, run_store_page2 hrl hpg _ (by simp), ?_⟩; try simp only [Act.put, List.setIfInBounds_toArray, List.set_cons_zero, List.set_cons_succ, List.getElem_toArray, List.getElem_cons_zero, List.getElem_cons_succ]) | (refine wl_append_nil rfl (.const (.slice none 0 0)) (.tmp 51) rfl rfl rfl d.q[i].2 hrl (by omega) (rangeAt_all (heap_new_at (by simp))) (by omega) ?_))
    intro cap w4 h1 h2 h3
    go_wp2_with fail
    go_ret2
    refine ⟨w.heap.size + 1, cap, rfl, by omega, ?_, ?_, ?_⟩
    · rw [HRD.out]; exact h1
    · exact (hI.setc { d with reads := wrap64 (d.reads + 1) } 0 _ rfl rfl hok rfl).keeps (((Keeps.refl [] _).alloc _).grown h2 (by simp)) (by simp)
    · exact (HK1.out.alloc _).grown h2 (by simp)
end Go.Proofs.YtojlojdkhegbkaaDoor

/-
  The walk of package disk's Sync.
-/
namespace Go.Proofs.YtojlojdkhegbkaaDoor
set_option linter.unusedVariables false
set_option linter.unusedSimpArgs false
open Go.RowKit

/-- A page's bytes laid into an image. -/
def setPage (img : List UInt8) (p : Nat) (data : List UInt8) : List UInt8 := img.take (p * 256) ++ data ++ img.drop (p * 256 + data.length)
def synced (img : List UInt8) (q : List (Nat × List UInt8)) : List UInt8 := q.foldl (fun m p => setPage m p.1 p.2) img
theorem setPage_length {img : List UInt8} {p : Nat} {data : List UInt8} (h : p * 256 + data.length ≤ img.length) : (setPage img p data).length = img.length := by simp [setPage]; omega
theorem synced_length {q : List (Nat × List UInt8)} {n : Nat} : ∀ {img : List UInt8}, img.length = 256 * n → (∀ p ∈ q, p.1 < n ∧ p.2.length = 256) → (synced img q).length = 256 * n := by
  induction q with
  | nil => intro img h _; exact h
  | cons x q ih =>
    intro img h hq
    have hx := hq x (by simp)
    refine ih ?_ (fun p hp => hq p (by simp [hp]))
    rw [setPage_length (by omega), h]
theorem synced_snoc (img : List UInt8) (q : List (Nat × List UInt8)) (x : Nat × List UInt8) : synced img (q ++ [x]) = setPage (synced img q) x.1 x.2 := by simp [synced]

/-- Behind the store of a page. -/
theorem DiskIn.setp {w : World} {b : Nat} {d : D} {bp bm : Nat} {qv : Value} (h : DiskIn w b d bp qv bm) (p : Nat) (data : List UInt8) (hp : p < d.n) (hl : data.length = 256) :
    DiskIn (w.setCells bp (p * 256) (data.map B)) b { d with img := setPage d.img p data } bp qv bm := by
  have hk : Keeps [bp] w (w.setCells bp (p * 256) (data.map B)) := (Keeps.refl _ _).setCells (.inl (by simp)) _ _
  obtain ⟨a1, a2, a3, a4⟩ := h.apart
  obtain ⟨o1, o2, o3, o4, o5, o6⟩ := h.ok
  refine ⟨⟨o1, o2, ?_, o4, o5, o6⟩, ?_, ?_, ?_, ?_⟩
  · show (setPage d.img p data).length = _
    rw [setPage_length (by omega), o3]
  · exact (hk.block b (lt_of_heap h.root) (by simpa using a1)).trans h.root
  · rw [heap_setCells_same bp _ _ _ w _ h.pages (by simp; omega)]
    simp [setPage]
  · exact ownsRow_keep h.queue (fun k hq => hk.block k (h.queue.lt k hq).2 (by simpa using Ne.symm (a4 k hq).2.1))
  · exact h.map.keep (hk.block bm h.map.lt (by simpa using Ne.symm a3))

/-- close: the queue is gone, the map is empty. -/
theorem dClose_disk {w : World} {b : Nat} {d : D} {bp bm : Nat} {qv : Value} (hI : DiskIn w b d bp qv bm) :
    Calls Tryd.prog 28 #[.pointer (some ⟨b, 0, none⟩)] w fun e w' => e = .returned (.tuple #[]) ∧ DiskIn w' b { d with q := [] } bp (.slice none 0 0) bm ∧ Keeps [b, bm] w w' := by
  obtain ⟨c0, c1, c2, c3, c4, c5, c6, c7, c8, c9⟩ := hI.cells
  obtain ⟨a1, a2, a3, a4⟩ := hI.apart
  obtain ⟨o1, o2, o3, o4, o5, o6⟩ := hI.ok
  refine (dClose_any c5 c6 c3 (hI.free 5) (hI.free 3) hI.map a2).mono ?_
  rintro e w' ⟨rfl, w1, hg, hm, rfl⟩
  have hk : Keeps [b, bm] w w1 := ((Keeps.refl _ _).setCell (.inl (by simp)) _).grown hg (fun k hk => .inl (by simp at hk; simp [hk]))
  have hk3 : Keeps [b, bm] w (w1.setCell ⟨b, 3, none⟩ (.int .i64 0)) := hk.setCell (.inl (by simp)) _
  refine ⟨rfl, ⟨⟨o1, o2, o3, by simp, o5, o6⟩, ?_, ?_, ?_, ?_⟩, hk3⟩
  · refine root_set (cs := (dCells d bp qv bm).setIfInBounds 5 (.slice none 0 0)) ?_ 3 _
    rw [hg.block b (by simpa using lt_of_heap hI.root) (by simpa using a2)]
    exact root_set hI.root 5 _
  · exact (hk3.block bp (lt_of_heap hI.pages) (by simp; exact ⟨Ne.symm a1, a3⟩)).trans hI.pages
  · exact World.ownsRow_nil _ _ _ _
  · exact hm.keep (Below.heap_setCell _ _ _ _ (by simpa using Ne.symm a2))

theorem dSync_down {w : World} {b : Nat} (h8 : w.cell? ⟨b, 8, none⟩ = some (.bool true)) :
    Calls Tryd.prog 10 #[.pointer (some ⟨b, 0, none⟩)] w fun e w' => e = .returned (.int .i64 2) ∧ w = w' := by
  go_enter Tryd.func10, Tryd.ntmps10
  go_wp2_with fail
  go_ret
  exact ⟨rfl, rfl⟩
theorem dSync_gone {w : World} {b : Nat} {d : D} {bp bm : Nat} {qv : Value} (hI : DiskIn w b d bp qv bm) (hd : d.dead = false) (ha : d.armed = 1) :
    Calls Tryd.prog 10 #[.pointer (some ⟨b, 0, none⟩)] w fun e w' => e = .returned (.int .i64 2) ∧ DiskIn w' b d.act bp qv bm ∧ Keeps [b] w w' := by
  obtain ⟨c0, c1, c2, c3, c4, c5, c6, c7, c8, c9⟩ := hI.cells
  rw [hd] at c8
  have hok := hI.ok
  have hc := dAct_any c7 c8 (hI.free 7) (hI.free 8) hok.2.2.2.2.1 hok.2.2.2.2.2
  rw [ha] at hc
  simp only [if_true] at hc
  have HD := Lib.hid hd
  have HA := Lib.hid ha
  clear hd ha
  go_enter Tryd.func10, Tryd.ntmps10
  go_wp2_with fail
  refine hc.mono ?_
  rintro e w' ⟨rfl, hw⟩
  have HW := Lib.hid hw
  clear hw
  go_wp2_with fail
  go_ret
  exact ⟨rfl, act_close hI HD.out (by rw [HW.out, HA.out]; simp)⟩
set_option maxRecDepth 100000 in
set_option maxHeartbeats 800000 in
theorem dSync_ok {w : World} {b : Nat} {d : D} {bp bm : Nat} {qv : Value} (hI : DiskIn w b d bp qv bm) (hd : d.dead = false) (ha : d.armed ≠ 1) :
    Calls Tryd.prog 10 #[.pointer (some ⟨b, 0, none⟩)] w fun e w' => e = .returned (.int .i64 0) ∧ DiskIn w' b { d.act with img := synced d.img d.q, q := [], syncs := wrap64 (d.syncs + 1) } bp (.slice none 0 0) bm ∧ Keeps [b, bp, bm] w w' := by
  obtain ⟨c0, c1, c2, c3, c4, c5, c6, c7, c8, c9⟩ := hI.cells
  rw [hd] at c8
  have hok := hI.ok
  have hc := dAct_any c7 c8 (hI.free 7) (hI.free 8) hok.2.2.2.2.1 hok.2.2.2.2.2
  simp only [if_neg ha] at hc
  have HD := Lib.hid hd
  have HA := Lib.hid ha
  clear hd ha
  go_enter Tryd.func10, Tryd.ntmps10
  go_wp2_with fail
  refine hc.mono ?_
  rintro e w1 ⟨rfl, hw⟩
  obtain ⟨hI1, hk1⟩ := act_close hI HD.out hw
  clear hw c0 c1 c2 c3 c4 c5 c6 c7 c8 c9
  obtain ⟨c0, c1, c2, c3, c4, c5, c6, c7, c8, c9⟩ := hI1.cells
  obtain ⟨aq, cq, rfl⟩ := hI.form
  go_wp2_with fail
  have hql := hI.qlen
  have hq6 : ∀ p ∈ d.q, p.2.length = 256 := fun p hp => (hok.2.2.2.1 p hp).2
  go_loopw [20] (fun i wr => ∃ k : Nat, k ≤ d.q.length ∧ i = .int .i64 k ∧ DiskIn wr b { d.act with img := synced d.img (d.q.take k) } bp (.slice aq d.q.length cq) bm ∧ Keeps [b, bp] w wr) (fun i _ => d.q.length - (intOf i).toNat)
  case atStart =>
    refine ⟨0, Nat.zero_le _, rfl, ?_, hk1.mono (by simp)⟩
    have e : ({ d.act with img := synced d.img (d.q.take 0) } : D) = d.act := by simp [synced, ← D.act_img d]
    rw [e]
    exact hI1
  case round =>
    obtain ⟨k, hk, rfl, hIr, hkr⟩ := hrel
    clear c0 c1 c2 c3 c4 c5 c6 c7 c8 c9
    obtain ⟨c0, c1, c2, c3, c4, c5, c6, c7, c8, c9⟩ := hIr.cells
    simp only [D.act_n] at c4
    by_cases hlt : k < d.q.length
    · obtain ⟨gq, rfl⟩ : ∃ gq, aq = some ⟨gq, 0, none⟩ := by
        rcases hI.queue.2 with ⟨_, h0⟩ | ⟨g, cap, cur, hv, _⟩
        · omega
        · injection hv with e _ _
          exact ⟨g, e⟩
      have hrange := queue_range (q := d.q) (by have := hIr.queue; simpa [D.act_q] using this) hq6 hlt
      have hpn := (hok.2.2.2.1 _ (List.getElem_mem hlt)).1
      have hpl := (hok.2.2.2.1 _ (List.getElem_mem hlt)).2
      obtain ⟨data, hdata⟩ : ∃ data, data = d.q[k].2 := ⟨_, rfl⟩
      obtain ⟨p, hp⟩ : ∃ p, p = d.q[k].1 := ⟨_, rfl⟩
      rw [← hdata, ← hp] at hrange
      rw [← hp] at hpn
      rw [← hdata] at hpl
      have HQ := Lib.hid hdata
      have HP := Lib.hid hp
      clear hdata hp
      obtain ⟨wl, hwl⟩ : ∃ wl, wl = Value.int .i64 (p : Int) :: data.map B := ⟨_, rfl⟩
      rw [← hwl] at hrange
      have hwl0 : wl.length = 257 := by rw [hwl]; simp [hpl]
      have hwl1 : ∀ v ∈ wl, v.oneCell' = true := by
        rw [hwl]
        intro u hu'
        rcases List.mem_cons.1 hu' with rfl | hu'
        · rfl
        · exact B_one data u hu'
      have hbl := lt_of_heap hIr.root
      have hbpl := lt_of_heap hIr.pages
      have hbox : ((wr.alloc (.cells wl.toArray 86)).heap[wr.heap.size]? = some (.cells wl.toArray 86 (0, 0))) := heap_new_at rfl
      have hcell0 : (wr.alloc (.cells wl.toArray 86)).cell? ⟨wr.heap.size, 0, none⟩ = some (.int .i64 (p : Int)) := by rw [cell_of_row _ _ _ _ _ _ hbox, hwl]; rfl
      have hrd : (wr.alloc (.cells wl.toArray 86)).rangeAt wr.heap.size 1 (data.map B) := by
        rw [show wl = [Value.int .i64 (p : Int)] ++ data.map B ++ [] by rw [hwl]; simp]
        exact rangeAt_part (heap_new_at rfl)
      have hth : (wr.alloc (.cells wl.toArray 86)).there bp (p * 256) (data.map B).length := by
        refine there_of_heap (w := wr) (there_all hIr.pages _ _ ?_) (heap_old_at hbpl)
        have := hIr.ok.2.2.1
        simp only [D.act_n] at this
        simp only [List.length_map, this, hpl]
        omega
      have hc4 : (wr.alloc (.cells wl.toArray 86)).cell? ⟨b, 4, none⟩ = some (.slice (some ⟨bp, 0, none⟩) d.n d.n) := (World.cell?_alloc_lt _ _ ⟨b, 4, none⟩ hbl).trans c4
      have HWL := Lib.hid hwl
      clear hwl hbox
      have hp0 : (0 : Int) ≤ (p : Int) := Int.natCast_nonneg _
      have hp1 : (p : Int) < (d.n : Int) := by omega
      have hk0 : (0 : Int) ≤ (k : Int) := Int.natCast_nonneg _
      have hk1' : (k : Int) < (d.q.length : Int) := by omega
      go_wp2_with (first | (refine wl_load rfl 86 (.tmp 22) rfl ?_; refine ⟨_, _, run_loadAt_mid _ _ _ _ _ _ hrange Tryd.underlying86 rfl (by rw [size_write, hwl0]), ?_⟩; try simp only [Act.put, List.setIfInBounds_toArray, List.set_cons_zero, List.set_cons_succ, List.getElem_toArray, List.getElem_cons_zero, List.getElem_cons_succ]) | (refine wl_store rfl 86 (.tmp 5) (.tmp 23) rfl ?_; refine ⟨_, run_store_w hwl0 hwl1 _ (by simp), ?_⟩; try simp only [Act.put, List.setIfInBounds_toArray, List.set_cons_zero, List.set_cons_succ, List.getElem_toArray, List.getElem_cons_zero, List.getElem_cons_succ]))
      have s4 : ∀ W : World, (W.setCells bp (p * 256) (data.map B)).cell? ⟨b, 4, none⟩ = W.cell? ⟨b, 4, none⟩ := fun W => World.cell?_setCells_out bp _ _ W _ (fun e _ => absurd e hI.apart.1)
      have s0 : ∀ W : World, (W.setCells bp (p * 256) (data.map B)).cell? ⟨wr.heap.size, 0, none⟩ = W.cell? ⟨wr.heap.size, 0, none⟩ := fun W => World.cell?_setCells_out bp _ _ W _ (fun e _ => absurd (show wr.heap.size = bp from e) (by omega))
      have hu := Tryd.underlying84
      have hi : (Tryd.prog.info? 84).map (·.size) = some (data.map B).length := size_page_of hpl
      have hl1 : ∀ v ∈ data.map B, v.oneCell' = true := B_one data
      go_region_held3 (fun w' => w'.cell? ⟨b, 4, none⟩ = some (.slice (some ⟨bp, 0, none⟩) d.n d.n) ∧ w'.cell? ⟨wr.heap.size, 0, none⟩ = some (.int .i64 (p : Int)) ∧ w'.rangeAt wr.heap.size 1 (data.map B) ∧ w'.there bp (p * 256) (data.map B).length) ((go_split_ands; refine ⟨?_, ?_, ?_, ?_⟩ <;> first | go_keep_ranges | go_keep)) (fail)
      go_wp2_with fail
      go_roundw
      case rel =>
        refine ⟨k + 1, by omega, by go_num, ?_, ?_⟩
        · have hIs := ((hIr.keeps (w' := (wr.alloc (.cells wl.toArray 86)).drew) (((Keeps.refl [] _).alloc _).drew) (by simp)).setp p data (by simpa [D.act_n] using hpn) hpl)
          have e : synced d.img (d.q.take (k + 1)) = setPage (synced d.img (d.q.take k)) p data := by
            rw [List.take_succ_eq_append_getElem hlt, synced_snoc, HQ.out, HP.out]
          rw [e]
          exact hIs
        · exact ((hkr.alloc _).drew).setCells (.inl (by simp)) _ _
      case measure => simp [intOf]; omega
    · have f2 := hIr.free 2
      go_wp2_with fail
      have hIs := hIr.setc { d.act with img := synced d.img (d.q.take k), syncs := wrap64 (d.act.syncs + 1) } 2 (.int .i64 (wrap64 (d.act.syncs + 1))) rfl rfl hIr.ok rfl
      refine (dClose_disk hIs).mono ?_
      rintro e w2 ⟨rfl, hI2, hk2⟩
      go_wp2_with fail
      go_ret
      refine ⟨rfl, ?_, ?_⟩
      · have e : d.q.take k = d.q := List.take_of_length_le (by omega)
        rw [e] at hI2
        simpa [D.act_syncs] using hI2
      · exact ((hkr.mono (G := [b, bp, bm]) (by simp)).setCell (.inl (by simp)) _).trans hk2 (by simp)
end Go.Proofs.YtojlojdkhegbkaaDoor

/-
  The walk of package disk's Crash.
-/
namespace Go.Proofs.YtojlojdkhegbkaaDoor
set_option linter.unusedVariables false
set_option linter.unusedSimpArgs false
open Go.RowKit

/-- Some bytes laid into an image. -/
def setAt (img : List UInt8) (o : Nat) (l : List UInt8) : List UInt8 := img.take o ++ l ++ img.drop (o + l.length)
def fateBit (f : UInt8) (j : Nat) : Bool := bits BinOp.and IntKind.u8 ((f.toNat : Int) / 2 ^ j) 1 == 1
/-- One sector of one open write. -/
def sect (img : List UInt8) (p : Nat) (data : List UInt8) (f : UInt8) (j : Nat) : List UInt8 := if fateBit f j then setAt img (p * 256 + j * 64) ((data.drop (j * 64)).take 64) else img
def sects (img : List UInt8) (p : Nat) (data : List UInt8) (f : UInt8) (k : Nat) : List UInt8 := (List.range k).foldl (fun m j => sect m p data f j) img
def crashed (img : List UInt8) (q : List (Nat × List UInt8)) (fates : List UInt8) : List UInt8 := (q.zip fates).foldl (fun m x => sects m x.1.1 x.1.2 x.2 4) img

theorem setAt_length {img : List UInt8} {o : Nat} {l : List UInt8} (h : o + l.length ≤ img.length) : (setAt img o l).length = img.length := by simp [setAt]; omega
set_option maxRecDepth 4000 in
theorem sect_length {img : List UInt8} {p : Nat} {data : List UInt8} {f : UInt8} {j : Nat} (h : p * 256 + 256 ≤ img.length) (hj : j < 4) : (sect img p data f j).length = img.length := by
  unfold sect
  split
  · refine setAt_length ?_
    have : ((data.drop (j * 64)).take 64).length ≤ 64 := List.length_take_le _ _
    omega
  · rfl
theorem sects_succ (img : List UInt8) (p : Nat) (data : List UInt8) (f : UInt8) (k : Nat) : sects img p data f (k + 1) = sect (sects img p data f k) p data f k := by simp [sects, List.range_succ]
theorem sects_length {img : List UInt8} {p : Nat} {data : List UInt8} {f : UInt8} {k : Nat} (h : p * 256 + 256 ≤ img.length) (hk : k ≤ 4) : (sects img p data f k).length = img.length := by
  induction k with
  | zero => rfl
  | succ k ih =>
    have := ih (by omega)
    rw [sects_succ, sect_length (by omega) (by omega), this]
theorem crashed_snoc (img : List UInt8) (q : List (Nat × List UInt8)) (fates : List UInt8) (k : Nat) (hq : k < q.length) (hf : k < fates.length) :
    crashed img (q.take (k + 1)) (fates.take (k + 1)) = sects (crashed img (q.take k) (fates.take k)) q[k].1 q[k].2 fates[k] 4 := by
  rw [List.take_succ_eq_append_getElem hq, List.take_succ_eq_append_getElem hf]
  unfold crashed
  rw [List.zip_append (by simp; omega)]
  simp
theorem crashed_take (img : List UInt8) (q : List (Nat × List UInt8)) (fates : List UInt8) (m : Nat) (h : m = min q.length fates.length) : crashed img (q.take m) (fates.take m) = crashed img q fates := by
  subst h
  unfold crashed
  congr 1
  exact (List.zip_eq_zip_take_min).symm

/-- Behind the store of some bytes within a page. -/
theorem DiskIn.seta {w : World} {b : Nat} {d : D} {bp bm : Nat} {qv : Value} (h : DiskIn w b d bp qv bm) (o : Nat) (l : List UInt8) (hl : o + l.length ≤ d.img.length) :
    DiskIn (w.setCells bp o (l.map B)) b { d with img := setAt d.img o l } bp qv bm := by
  have hk : Keeps [bp] w (w.setCells bp o (l.map B)) := (Keeps.refl _ _).setCells (.inl (by simp)) _ _
  obtain ⟨a1, a2, a3, a4⟩ := h.apart
  obtain ⟨o1, o2, o3, o4, o5, o6⟩ := h.ok
  refine ⟨⟨o1, o2, ?_, o4, o5, o6⟩, ?_, ?_, ?_, ?_⟩
  · show (setAt d.img o l).length = _
    rw [setAt_length hl, o3]
  · exact (hk.block b (lt_of_heap h.root) (by simpa using a1)).trans h.root
  · rw [heap_setCells_same bp _ _ _ w _ h.pages (by simp; omega)]
    simp [setAt]
  · exact ownsRow_keep h.queue (fun k hq => hk.block k (h.queue.lt k hq).2 (by simpa using Ne.symm (a4 k hq).2.1))
  · exact h.map.keep (hk.block bm h.map.lt (by simpa using Ne.symm a3))

/-- .. of the block as a whole. -/
theorem DiskIn.setr {w : World} {b : Nat} {d : D} {bp bm : Nat} {qv : Value} (h : DiskIn w b d bp qv bm) (img : List UInt8) (hl : img.length = d.img.length) :
    DiskIn (w.setRow bp (img.map B).toArray) b { d with img } bp qv bm ∧ Keeps [bp] w (w.setRow bp (img.map B).toArray) := by
  have hk : Keeps [bp] w (w.setRow bp (img.map B).toArray) := ⟨rfl, rfl, rfl, by simp, fun k _ hn => setRow_other w bp k _ (by simpa using hn)⟩
  obtain ⟨a1, a2, a3, a4⟩ := h.apart
  obtain ⟨o1, o2, o3, o4, o5, o6⟩ := h.ok
  refine ⟨⟨⟨o1, o2, hl.trans o3, o4, o5, o6⟩, ?_, ?_, ?_, ?_⟩, hk⟩
  · exact (hk.block b (lt_of_heap h.root) (by simpa using a1)).trans h.root
  · exact setRow_heap w bp _ _ _ _ h.pages
  · exact ownsRow_keep h.queue (fun k hq => hk.block k (h.queue.lt k hq).2 (by simpa using Ne.symm (a4 k hq).2.1))
  · exact h.map.keep (hk.block bm h.map.lt (by simpa using Ne.symm a3))
theorem run_copy_bytes {W : World} {g go o so n c1 c2 : Nat} {t : TypeId} {img l : List UInt8} (hp : W.heap[g]? = some (.cells (img.map B).toArray t (0, 0))) (hs : W.rangeAt go so (l.map B)) (hl : l.length = n) (ho : o + n ≤ img.length) (ty : TypeId) :
    (Builtin.copy_ #[25, 25] ty #[.slice (some ⟨g, o, none⟩) n c1, .slice (some ⟨go, so, none⟩) n c2]).run Tryd.prog W = .ok (.int .i64 n) (W.setRow g ((setAt img o l).map B).toArray) := by
  have := run_copy_row (P := Tryd.prog) W 25 25 ty 5 g o n c1 ⟨go, so, none⟩ n c2 (img.map B).toArray t (l.map B) Tryd.underlying25 (by kernel_rfl) hp (by simp [hl])
    (fun j v hv => by rw [Addr.add_mid]; exact hs j v hv) (by simp [hl]; omega) (B_one l)
  rw [this]
  simp [goInt, hl, setAt]

set_option maxRecDepth 100000 in
set_option maxHeartbeats 800000 in
theorem dCrash_ok {w : World} {b : Nat} {d : D} {bp bm : Nat} {qv fv : Value} {fates : List UInt8} (hI : DiskIn w b d bp qv bm) (hf : BytesAt w fv fates) (hfd : ∀ k, fv.elemBlock = some k → k ≠ b ∧ k ≠ bp ∧ k ≠ bm) :
    Calls Tryd.prog 11 #[.pointer (some ⟨b, 0, none⟩), fv] w fun e w' => e = .returned (.int .i64 d.q.length) ∧
      DiskIn w' b { d with img := crashed d.img d.q fates, q := [], armed := 0, dead := false, epoch := wrap64 (d.epoch + 1) } bp (.slice none 0 0) bm ∧ Keeps [b, bp, bm] w w' := by
  obtain ⟨c0, c1, c2, c3, c4, c5, c6, c7, c8, c9⟩ := hI.cells
  have hok := hI.ok
  have hql := hI.qlen
  obtain ⟨aq, cq, rfl⟩ := hI.form
  obtain ⟨fa, fc, rfl, hfl, hfm⟩ := hf.form
  unfold maxLen at hfm
  obtain ⟨hqc, hqm⟩ := hI.qcap
  have hqc' : (d.q.length : Int) ≤ (cq : Int) := by omega
  have f8 := hI.free 8
  by_cases hcase : fates.length < d.q.length
  all_goals
    go_enter Tryd.func11, Tryd.ntmps11
    go_wp2_with fail
    go_loopw [26] (fun i wr => ∃ k : Nat, k ≤ d.q.length ∧ k ≤ fates.length ∧ i = .int .i64 k ∧ DiskIn wr b { d with img := crashed d.img (d.q.take k) (fates.take k) } bp (.slice aq d.q.length cq) bm ∧ Keeps [b, bp] w wr) (fun i _ => d.q.length - (intOf i).toNat)
    case atStart =>
      refine ⟨0, Nat.zero_le _, Nat.zero_le _, rfl, ?_, Keeps.refl _ _⟩
      simpa [crashed] using hI
    case round =>
      obtain ⟨wo, rfl⟩ : ∃ wo : World, wo = wr := ⟨_, rfl⟩
      obtain ⟨k, hkq, hkf, rfl, hIr, hkr⟩ := hrel
      clear c0 c1 c2 c3 c4 c5 c6 c7 c8 c9
      obtain ⟨c0, c1, c2, c3, c4, c5, c6, c7, c8, c9⟩ := hIr.cells
      simp only at c0 c1 c2 c3 c4 c5 c6 c7 c8 c9
      by_cases hlt : k < d.q.length ∧ k < fates.length
      · obtain ⟨hlq, hlf⟩ := hlt
        obtain ⟨gq, rfl⟩ : ∃ gq, aq = some ⟨gq, 0, none⟩ := by
          rcases hI.queue.2 with ⟨_, h0⟩ | ⟨g, cap, cur, hv, _⟩
          · omega
          · injection hv with e _ _
            exact ⟨g, e⟩
        obtain ⟨gf, fo, rfl, hgf, hfr⟩ : ∃ gf fo, fa = some ⟨gf, fo, none⟩ ∧ gf < w.heap.size ∧ w.rangeAt gf fo (fates.map B) := by
          rcases hf with ⟨h0, _⟩ | ⟨g, o, cap, hv, _, _, h3, h4⟩
          · subst h0; simp at hlf
          · injection hv with e _ _
            exact ⟨g, o, e, h3, h4⟩
        have heb : (Value.slice (some ⟨gf, fo, none⟩) fates.length fc).elemBlock = some gf := by
          obtain ⟨nn, hnn⟩ : ∃ nn, fates.length = nn + 1 := ⟨fates.length - 1, by omega⟩
          rw [hnn]; rfl
        have hrange := queue_range (q := d.q) hIr.queue (fun p hp => (hok.2.2.2.1 p hp).2) hlq
        have hpn := (hok.2.2.2.1 _ (List.getElem_mem hlq)).1
        have hpl := (hok.2.2.2.1 _ (List.getElem_mem hlq)).2
        have hff : w.cell? ⟨gf, fo + k, none⟩ = some (B fates[k]) := hfr k _ (by simp [hlf])
        obtain ⟨data, hdata⟩ : ∃ data, data = d.q[k].2 := ⟨_, rfl⟩
        obtain ⟨p, hp⟩ : ∃ p, p = d.q[k].1 := ⟨_, rfl⟩
        obtain ⟨f, hff'⟩ : ∃ f, f = fates[k] := ⟨_, rfl⟩
        rw [← hff'] at hff
        rw [← hdata, ← hp] at hrange
        rw [← hp] at hpn
        rw [← hdata] at hpl
        have HQ := Lib.hid hdata
        have HP := Lib.hid hp
        have HF := Lib.hid hff'
        clear hdata hp hff'
        obtain ⟨wl, hwl⟩ : ∃ wl, wl = Value.int .i64 (p : Int) :: data.map B := ⟨_, rfl⟩
        rw [← hwl] at hrange
        have hwl0 : wl.length = 257 := by rw [hwl]; simp [hpl]
        have hwl1 : ∀ v ∈ wl, v.oneCell' = true := by
          rw [hwl]
          intro u hu'
          rcases List.mem_cons.1 hu' with rfl | hu'
          · rfl
          · exact B_one data u hu'
        have hbl := lt_of_heap hIr.root
        have hbpl := lt_of_heap hIr.pages
        have hp0 : (0 : Int) ≤ (p : Int) := Int.natCast_nonneg _
        have hp1 : (p : Int) < (d.n : Int) := by omega
        have hk0 : (0 : Int) ≤ (k : Int) := Int.natCast_nonneg _
        have hk1' : (k : Int) < (d.q.length : Int) := by omega
        have hk2' : (k : Int) < (fates.length : Int) := by omega
        have HWL := Lib.hid hwl
        clear hwl
        go_wp2_with (first | (refine wl_load rfl 86 (.tmp 29) rfl ?_; refine ⟨_, _, run_loadAt_mid _ _ _ _ _ _ hrange Tryd.underlying86 rfl (by rw [size_write, hwl0]), ?_⟩; try simp only [Act.put, List.setIfInBounds_toArray, List.set_cons_zero, List.set_cons_succ, List.getElem_toArray, List.getElem_cons_zero, List.getElem_cons_succ]) | (refine wl_store rfl 86 (.tmp 7) (.tmp 30) rfl ?_; refine ⟨_, run_store_w hwl0 hwl1 _ (by simp), ?_⟩; try simp only [Act.put, List.setIfInBounds_toArray, List.set_cons_zero, List.set_cons_succ, List.getElem_toArray, List.getElem_cons_zero, List.getElem_cons_succ]))
        obtain ⟨wb, hwb⟩ : ∃ wb : World, wb = wo.alloc (.cells wl.toArray 86) := ⟨_, rfl⟩
        obtain ⟨bx, hbx⟩ : ∃ bx : Nat, bx = wo.heap.size := ⟨_, rfl⟩
        rw [← hwb, ← hbx]
        have kb : Keeps [] wo wb := by rw [hwb]; exact (Keeps.refl _ _).alloc _
        have hbxh : wb.heap[bx]? = some (.cells wl.toArray 86 (0, 0)) := by rw [hwb, hbx]; exact heap_new_at rfl
        have hsw : w.heap.size ≤ wo.heap.size := hkr.size
        have HWB := Lib.hid hwb
        have HBX := Lib.hid hbx
        have hbxl : wo.heap.size ≤ bx := by omega
        have hbxl2 : bx < wb.heap.size := lt_of_heap hbxh
        have HBH := Lib.hid hbxh
        clear hwb hbx hbxh c0 c1 c2 c3 c4 c5 c6 c7 c8 c9
        go_loopw [31] (fun i wi => ∃ j : Nat, j ≤ 4 ∧ i = .int .i64 j ∧ DiskIn wi b { d with img := sects (crashed d.img (d.q.take k) (fates.take k)) p data f j } bp (.slice (some ⟨gq, 0, none⟩) d.q.length cq) bm ∧ Keeps [bp] wb wi) (fun i _ => 4 - (intOf i).toNat)
        case atStart =>
          refine ⟨0, by omega, rfl, ?_, Keeps.refl _ _⟩
          exact hIr.keeps kb (by simp)
        case round =>
          obtain ⟨j, hj, rfl, hIi, hki⟩ := hrel
          by_cases hj4 : j < 4
          · have hfc : wr.cell? ⟨gf, fo + k, none⟩ = some (.int .u8 f.toNat) := by
              have e1 : wo.heap[gf]? = w.heap[gf]? := hkr.block gf hgf (by have := hfd gf heb; simp; exact ⟨this.1, this.2.1⟩)
              have e2 : wb.heap[gf]? = wo.heap[gf]? := kb.block gf (by omega) (by simp)
              have e3 : wr.heap[gf]? = wb.heap[gf]? := hki.block gf (by have := kb.size; omega) (by have := hfd gf heb; simp; exact this.2.1)
              rw [World.cell?_of_block (w := w) (w' := wr) (a := ⟨gf, fo + k, none⟩) (e3.trans (e2.trans e1))]
              exact hff
            have hj0 : (0 : Int) ≤ (j : Int) := Int.natCast_nonneg _
            have hj1 : (j : Int) < 4 := by omega
            obtain ⟨c0, c1, c2, c3, c4, c5, c6, c7, c8, c9⟩ := hIi.cells
            simp only at c0 c1 c2 c3 c4 c5 c6 c7 c8 c9
            have hb0 : wr.heap[bx]? = some (.cells wl.toArray 86 (0, 0)) := (hki.block bx hbxl2 (by simp; omega)).trans HBH.out
            have hb1 : wr.cell? ⟨bx, 0, none⟩ = some (.int .i64 (p : Int)) := by rw [cell_of_row _ _ _ _ _ _ hb0, HWL.out]; rfl
            have b1 : (0 : Int) ≤ (j : Int) * 64 := by omega
            have b2 : (j : Int) * 64 ≤ ((j : Int) + 1) * 64 := by omega
            have b3 : ((j : Int) + 1) * 64 ≤ 256 := by omega
            clear hfd heb
            cases hbit0 : fateBit f j
            case false =>
              have hbit : (bits BinOp.and IntKind.u8 ((f.toNat : Int) / 2 ^ j) 1 == 1) = false := hbit0
              have eJ : sects (crashed d.img (d.q.take k) (fates.take k)) p data f (j + 1) = sects (crashed d.img (d.q.take k) (fates.take k)) p data f j := by rw [sects_succ, sect, if_neg (by simp [hbit0])]
              have HE := Lib.hid eJ
              clear hbit0 eJ hb0
              go_wp2_with fail
              go_roundw
              case rel =>
                refine ⟨j + 1, by omega, by go_num, ?_, hki⟩
                rw [HE.out]
                exact hIi
              case measure => simp [intOf]; omega
            case true =>
              have hbit : (bits BinOp.and IntKind.u8 ((f.toNat : Int) / 2 ^ j) 1 == 1) = true := hbit0
              obtain ⟨seg, hseg⟩ : ∃ seg, seg = (data.drop (j * 64)).take 64 := ⟨_, rfl⟩
              have hsegl : seg.length = 64 := by rw [hseg]; simp; omega
              have hsegr : wr.drew.rangeAt bx (1 + j * 64) (seg.map B) := by
                have hxx : wl = (Value.int .i64 (p : Int) :: (data.take (j * 64)).map B) ++ seg.map B ++ ((data.drop (j * 64)).drop 64).map B := by
                  rw [HWL.out, hseg, List.cons_append, List.cons_append, ← List.map_append, ← List.map_append, List.append_assoc, List.take_append_drop, List.take_append_drop]
                rw [hxx] at hb0
                have := rangeAt_part hb0
                rw [List.length_cons, List.length_map, List.length_take, hpl, show min (j * 64) 256 + 1 = 1 + j * 64 from by omega] at this
                exact this
              have hil : p * 256 + j * 64 + 64 ≤ (sects (crashed d.img (List.take k d.q) (List.take k fates)) p data f j).length := by
                have := hIi.ok.2.2.1
                simp only at this
                omega
              obtain ⟨J, hJ⟩ : ∃ J, J = j + 1 := ⟨_, rfl⟩
              have eJ : sects (crashed d.img (d.q.take k) (fates.take k)) p data f J = setAt (sects (crashed d.img (d.q.take k) (fates.take k)) p data f j) (p * 256 + j * 64) seg := by rw [hJ, sects_succ, sect, if_pos hbit0, hseg]
              have HE := Lib.hid eJ
              have HJ := Lib.hid hJ
              have hbbp := hI.apart.1
              have hcopy := fun (c1 c2 : Nat) (ty : TypeId) => run_copy_bytes (c1 := c1) (c2 := c2) (hIi.keep (w' := wr.drew) (fun _ _ => rfl)).pages hsegr hsegl hil ty
              have hset := (hIi.keep (w' := wr.drew) (fun _ _ => rfl)).setr (setAt (sects (crashed d.img (d.q.take k) (fates.take k)) p data f j) (p * 256 + j * 64) seg) (setAt_length (by rw [hsegl]; exact hil))
              have HSET := Lib.hid hset
              have HSEG := Lib.hid hseg
              have HBIT := Lib.hid hbit0
              clear hbit0 hseg hJ hset eJ hb0
              go_wp2_with fail
              obtain rfl | rfl | rfl | rfl : j = 0 ∨ j = 1 ∨ j = 2 ∨ j = 3 := by omega
              all_goals
                simp only [Nat.reduceMul, Nat.reduceAdd, Nat.add_zero] at hcopy
                go_region_held3 (fun w' => w'.cell? ⟨b, 4, none⟩ = some (.slice (some ⟨bp, 0, none⟩) d.n d.n) ∧ w'.cell? ⟨bx, 0, none⟩ = some (.int .i64 (p : Int))) (first | go_keep | (refine ⟨?_, ?_⟩ <;> (rw [cell_setRow_other _ _ _ _ (by simp; omega)]; assumption)))
                  ((refine st_builtin rfl .copy #[.tmp 56, .tmp 60] #[25, 25] rfl ?_; refine ⟨_, _, run_builtin_copy (hcopy _ _ _), ?_⟩; try simp only [Act.put, List.setIfInBounds_toArray, List.set_cons_zero, List.set_cons_succ, List.getElem_toArray, List.getElem_cons_zero, List.getElem_cons_succ]))
                go_wp2_with fail
                have hJ := HJ.out
                have hset := HSET.out
                have eJ := HE.out
                simp only [Nat.reduceMul, Nat.add_zero] at hset eJ
                refine ⟨⟨J, by omega, by rw [hJ]; rfl, ?_, ?_⟩, by simp [intOf]⟩
                · rw [eJ]
                  exact hset.1
                · exact (hki.drew).trans hset.2 (by simp)
          · have ek : crashed d.img (d.q.take (k + 1)) (fates.take (k + 1)) = sects (crashed d.img (d.q.take k) (fates.take k)) p data f j := by
              rw [crashed_snoc _ _ _ k hlq hlf, HP.out, HQ.out, HF.out, show j = 4 from by omega]
            have HE := Lib.hid ek
            clear ek hfd heb
            go_wp2_with fail
            go_roundw
            case rel =>
              refine ⟨k + 1, by omega, by omega, by go_num, ?_, ?_⟩
              · rw [HE.out]; exact hIi
              · exact (hkr.trans kb (by simp)).trans hki (by simp)
            case measure => simp [intOf]; omega
      · have ek : crashed d.img (d.q.take k) (fates.take k) = crashed d.img d.q fates := crashed_take _ _ _ _ (by omega)
        have f7 := hIr.free 7
        have f8' := hIr.free 8
        have f9 := hIr.free 9
        have HE := Lib.hid ek
        clear ek hfd
        go_wp2_with fail
        refine (dClose_disk hIr).mono ?_
        rintro e w2 ⟨rfl, hI2, hk2⟩
        obtain ⟨e0, e1, e2, e3, e4, e5, e6, e7, e8, e9⟩ := hI2.cells
        simp only at e7 e8 e9
        have g7 := hI2.free 7
        have g8 := hI2.free 8
        have g9 := hI2.free 9
        clear e0 e1 e2 e3 e4 e5 e6
        go_wp2_with fail
        go_ret
        rw [HE.out] at hI2
        obtain ⟨o1, o2, o3, o4, o5, o6⟩ := hI2.ok
        have s1 := hI2.setc { d with img := crashed d.img d.q fates, q := [], dead := false } 8 (.bool false) rfl rfl ⟨o1, o2, o3, o4, o5, o6⟩ rfl
        have s2 := s1.setc { d with img := crashed d.img d.q fates, q := [], dead := false, armed := 0 } 7 (.int .i64 0) rfl rfl ⟨o1, o2, o3, o4, by simp, by simp⟩ rfl
        have s3 := s2.setc { d with img := crashed d.img d.q fates, q := [], dead := false, armed := 0, epoch := wrap64 (d.epoch + 1) } 9 (.int .i64 (wrap64 (d.epoch + 1))) rfl rfl ⟨o1, o2, o3, o4, by simp, by simp⟩ rfl
        refine ⟨rfl, s3, ?_⟩
        have k3 : Keeps [b, bp, bm] w w2 := (hkr.mono (G := [b, bp, bm]) (by simp)).trans hk2 (by simp)
        exact ((k3.setCell (.inl (by simp)) _).setCell (.inl (by simp)) _).setCell (.inl (by simp)) _
end Go.Proofs.YtojlojdkhegbkaaDoor

/-
  The walks of package disk: Write, Read.
-/
namespace Go.Proofs.YtojlojdkhegbkaaDoor
set_option linter.unusedVariables false
set_option linter.unusedSimpArgs false
open Go.RowKit

theorem dWrite_down {w : World} {b : Nat} {page : Int} {dv : Value} (h8 : w.cell? ⟨b, 8, none⟩ = some (.bool true)) :
    Calls Tryd.prog 60 #[.pointer (some ⟨b, 0, none⟩), .int .i64 page, dv] w fun e w' => e = .returned (.int .i64 2) ∧ w = w' := by
  go_enter Tryd.func60, Tryd.ntmps60
  go_wp2_with fail
  go_ret
  exact ⟨rfl, rfl⟩
theorem dWrite_page {w : World} {b bp n cap : Nat} {page : Int} {dv : Value} (h4 : w.cell? ⟨b, 4, none⟩ = some (.slice (some ⟨bp, 0, none⟩) n cap)) (h8 : w.cell? ⟨b, 8, none⟩ = some (.bool false)) (hp : page < 0 ∨ (n : Int) ≤ page) :
    Calls Tryd.prog 60 #[.pointer (some ⟨b, 0, none⟩), .int .i64 page, dv] w fun e w' => e = .returned (.int .i64 41) ∧ w = w' := by
  have hd : (decide (0 ≤ page) && decide (page < n)) = false := by simp; omega
  have c := dHas_any page h4
  rw [hd] at c
  go_enter Tryd.func60, Tryd.ntmps60
  go_wp2_with (go_at_call 70; refine c.mono ?_; rintro e w' ⟨rfl, rfl⟩)
  go_ret
  exact ⟨rfl, rfl⟩
theorem dWrite_size {w : World} {b bp n cap : Nat} {page : Int} {a : Option Addr} {len c : Nat} (h4 : w.cell? ⟨b, 4, none⟩ = some (.slice (some ⟨bp, 0, none⟩) n cap)) (h8 : w.cell? ⟨b, 8, none⟩ = some (.bool false)) (hp : 0 ≤ page) (hp1 : page < n) (hl : len ≠ 256) :
    Calls Tryd.prog 60 #[.pointer (some ⟨b, 0, none⟩), .int .i64 page, .slice a len c] w fun e w' => e = .returned (.int .i64 42) ∧ w = w' := by
  have hd : (decide (0 ≤ page) && decide (page < n)) = true := by simp; omega
  have c := dHas_any page h4
  rw [hd] at c
  have hl' : ((len : Int) != 256) = true := by simp; omega
  go_enter Tryd.func60, Tryd.ntmps60
  go_wp2_with (go_at_call 70; refine c.mono ?_; rintro e w' ⟨rfl, rfl⟩)
  go_ret
  exact ⟨rfl, rfl⟩
set_option maxRecDepth 100000 in
set_option maxHeartbeats 400000 in
theorem dWrite_ok {w : World} {b : Nat} {d : D} {bp bm : Nat} {qv : Value} (page : Nat) {g o c : Nat} {data : List UInt8} (hI : DiskIn w b d bp qv bm) (hd : d.dead = false) (hp : page < d.n) (hl : data.length = 256)
    (hg : g < w.heap.size) (hr : w.rangeAt g o (data.map B)) (hc : 256 ≤ c) (hq : d.q.length < 4294967296) :
    Calls Tryd.prog 60 #[.pointer (some ⟨b, 0, none⟩), .int .i64 page, .slice (some ⟨g, o, none⟩) 256 c] w fun e w' => e = .returned (.int .i64 (if d.armed = 1 then 2 else 0)) ∧ ∃ qv', DiskIn w' b (d.write page data) bp qv' bm ∧ Keeps (b :: bp :: bm :: qv.ownBlock.toList) w w' ∧ (qv'.ownBlock = qv.ownBlock ∨ ∃ g, qv'.ownBlock = some g ∧ w.heap.size ≤ g) := by
  obtain ⟨c0, c1, c2, c3, c4, c5, c6, c7, c8, c9⟩ := hI.cells
  rw [hd] at c8
  have hp0 : (0 : Int) ≤ (page : Int) := Int.natCast_nonneg _
  have hp1 : (page : Int) < (d.n : Int) := by omega
  have hh := dHas_any (page : Int) c4
  rw [show (decide (0 ≤ (page : Int)) && decide ((page : Int) < d.n)) = true by simp [hp]] at hh
  have hbl := lt_of_heap hI.root
  have hcopy : ∀ ty, (Builtin.copy_ #[25, 25] ty #[.slice (some ⟨w.heap.size, 1, none⟩) 256 256, .slice (some ⟨g, o, none⟩) 256 c]).run Tryd.prog (w.alloc (.cells (zWrite page) 86)) = .ok (.int .i64 256) (w.alloc (.cells (wCells page data) 86)) := by
    intro ty
    have := run_copy_row (P := Tryd.prog) (w.alloc (.cells (zWrite page) 86)) 25 25 ty 5 w.heap.size 1 256 256 ⟨g, o, none⟩ 256 c (zWrite page) 86 (data.map B) Tryd.underlying25 (by kernel_rfl) (heap_alloc_new _ _) (by simp [hl])
      (fun j v hv => by rw [Addr.add_mid, World.cell?_alloc_lt _ _ _ hg]; exact hr j v hv) (by rw [zWrite_size]; simp [hl]) (B_one data)
    rw [this, World.setRow_alloc_new, write_cells page hl]
    simp [goInt, hl]
  obtain ⟨aq, cq, rfl⟩ := hI.form
  have hbm := hI.map.lt
  obtain ⟨w3, hput, hmap, hgr, hsz⟩ := (hI.map.keep (w' := (w.alloc (.cells (wCells page data) 86)).drew) (heap_old_at hI.map.lt)).put (tm := 81) Tryd.underlying3 Tryd.underlying81 (by simp only [maxLen]; omega)
    (show (Lit.int .i64 (page : Int)).wf = true from WalkArith.wf_i64 (by have := hI.ok; unfold D.ok at this; omega)) (show (Lit.int .i64 (d.q.length : Int)).wf = true from WalkArith.wf_i64 (by omega))
  have hne := hI.apart
  have hnb : b ≠ bm := hne.2.1
  have far : ∀ j, w3.cell? ⟨b, j, none⟩ = w.cell? ⟨b, j, none⟩ := fun j => by
    rw [hgr.cell_far _ (by simpa using Nat.lt_succ_of_lt hbl) (by simpa using hnb)]
    exact World.cell?_alloc_lt w _ ⟨b, j, none⟩ hbl
  have k1 := (far 1).trans c1
  have k3 := (far 3).trans c3
  have k5 := (far 5).trans c5
  have k6 := (far 6).trans c6
  have k7 := (far 7).trans c7
  have k8 := (far 8).trans c8
  have kf : ∀ j, w3.frozen? ⟨b, j, none⟩ = false := fun j => by
    rw [hgr.frozen_far _ (by simpa using Nat.lt_succ_of_lt hbl) (by simpa using hnb)]
    exact (World.frozen?_alloc_old w _ ⟨b, j, none⟩ (Nat.ne_of_lt hbl)).trans (hI.free j)
  have kw : w3.heap[w.heap.size]? = some (.cells (wCells page data) 86 (0, 0)) := by
    rw [hgr.block _ (by simp) (by simp; omega)]
    exact heap_new_at rfl
  have kr : w3.rangeAt w.heap.size 0 (.int .i64 page :: data.map B) := rangeAt_all kw
  have hbl3 : b < w3.heap.size := by rw [hsz]; simp; omega
  have kq : w3.ownsRow 0 86 257 (.slice aq d.q.length cq) d.q.length (qCells d.q) := by
    refine ownsRow_keep hI.queue (fun k hk => ?_)
    have hlt := (hI.queue.lt k hk).2
    rw [hgr.block k (by simp; omega) (fun e => (hne.2.2.2 k hk).2.2 (by simpa using e.symm))]
    exact heap_old_at hlt
  have HW := Lib.hid kw
  have HF := Lib.hid far
  have HM := Lib.hid hmap
  have HG := Lib.hid hgr
  clear far kw
  have HS := Lib.hid hsz
  have kroot : w3.heap[b]? = some (.cells (dCells d bp (.slice aq d.q.length cq) bm) 83 (0, 0)) := by
    rw [hgr.block b (by simp; omega) (by simpa using hnb), show (w.alloc (.cells (wCells page data) 86)).drew.heap[b]? = w.heap[b]? from heap_old_at hbl]; exact hI.root
  have kpages : w3.heap[bp]? = some (.cells (d.img.map B).toArray 84 (0, 0)) := by
    have hlt := lt_of_heap hI.pages
    rw [hgr.block bp (by simp; omega) (by simpa using hne.2.2.1), show (w.alloc (.cells (wCells page data) 86)).drew.heap[bp]? = w.heap[bp]? from heap_old_at hlt]; exact hI.pages
  have HKR := Lib.hid kroot
  have HKP := Lib.hid kpages
  have HD := Lib.hid hd
  have HSZ := Lib.hid hsz
  have hsz' : w.heap.size + 1 ≤ w3.heap.size := by rw [hsz]; simp
  have HN := Lib.hid hne
  clear hd hmap hgr hsz kroot kpages hne
  go_enter Tryd.func60, Tryd.ntmps60
  go_wp2_with (first | (go_at_call 70; refine hh.mono ?_; rintro e w' ⟨rfl, rfl⟩) | (refine wl_store rfl 86 (.tmp 7) (.tmp 23) rfl ?_; refine ⟨_, run_store_write _ _, ?_⟩; try simp only [Act.put, List.setIfInBounds_toArray, List.set_cons_zero, List.set_cons_succ, List.getElem_toArray, List.getElem_cons_zero, List.getElem_cons_succ]) | (refine wl_builtin rfl .copy #[.tmp 25, .tmp 26] #[25, 25] rfl ?_; refine ⟨_, _, run_builtin_copy (hcopy _), ?_⟩; try simp only [Act.put, List.setIfInBounds_toArray, List.set_cons_zero, List.set_cons_succ, List.getElem_toArray, List.getElem_cons_zero, List.getElem_cons_succ]))
  go_region_held3 (fun w' => w'.cell? ⟨b, 6, none⟩ = some (.map (some bm)) ∧ w'.cell? ⟨b, 5, none⟩ = some (.slice aq d.q.length cq)) (go_keep) (fail)
  go_wp2_with fail
  obtain ⟨wl, hwl⟩ : ∃ wl, wl = Value.int .i64 (page : Int) :: data.map B := ⟨_, rfl⟩
  rw [← hwl] at kr
  have hu := Tryd.underlying86
  have hi : (Tryd.prog.info? 86).map (·.size) = some wl.length := by rw [size_write, hwl]; simp [hl]
  have hwl1 : wl.length = 257 := by rw [hwl]; simp [hl]
  have HWL := Lib.hid hwl
  clear hwl
  refine rl_start (fun w' => w'.cell? ⟨b, 5, none⟩ = some (.slice aq d.q.length cq) ∧ w'.rangeAt w.heap.size 0 wl) 10 (by kernel_rfl) ?_ (fun hHeld => ?_)
  · exact ⟨k5, kr⟩
  refine' rl_take (i := 0) (v := _) rfl (by kernel_rfl) (by kernel_rfl) (by kernel_rfl) (by kernel_rfl) (fun _ _ _ h => h) (Or.inl ⟨by rfl, ?_⟩) (by assumption) ?_
  rotate_left 1
  · (intro w0 hSw; (try dsimp only at hSw); go_split_ands; go_simp; (try with_reducible rfl))
  try simp only [Act.put, List.setIfInBounds_toArray, List.set_cons_zero, List.set_cons_succ, List.getElem_toArray, List.getElem_cons_zero, List.getElem_cons_succ]
  refine' rl_take (i := 1) (v := _) rfl (by kernel_rfl) (by kernel_rfl) (by kernel_rfl) (by kernel_rfl) (fun _ _ _ h => h) (Or.inl ⟨by rfl, ?_⟩) (by assumption) ?_
  rotate_left 1
  · (intro w0 hSw; (try dsimp only at hSw); go_split_ands; go_simp; (try with_reducible rfl))
  try simp only [Act.put, List.setIfInBounds_toArray, List.set_cons_zero, List.set_cons_succ, List.getElem_toArray, List.getElem_cons_zero, List.getElem_cons_succ]
  refine' rl_take (i := 2) (v := _) rfl (by kernel_rfl) (by kernel_rfl) (by kernel_rfl) (by kernel_rfl) (fun _ _ _ h => h) (Or.inl ⟨by rfl, ?_⟩) (by assumption) ?_
  rotate_left 1
  · (intro w0 hSw; (try dsimp only at hSw); go_split_ands; go_simp; (try with_reducible rfl))
  try simp only [Act.put, List.setIfInBounds_toArray, List.set_cons_zero, List.set_cons_succ, List.getElem_toArray, List.getElem_cons_zero, List.getElem_cons_succ]
  refine' rl_take (i := 3) (v := _) rfl (by kernel_rfl) (by kernel_rfl) (by kernel_rfl) (by kernel_rfl) (fun _ _ _ h => h) (Or.inl ⟨by rfl, ?_⟩) (by assumption) ?_
  rotate_left 1
  · (intro w0 hSw; (try dsimp only at hSw); go_split_ands; go_simp; (try with_reducible rfl))
  try simp only [Act.put, List.setIfInBounds_toArray, List.set_cons_zero, List.set_cons_succ, List.getElem_toArray, List.getElem_cons_zero, List.getElem_cons_succ]
  refine' rl_take (i := 4) (v := _) rfl (by kernel_rfl) (by kernel_rfl) (by kernel_rfl) (by kernel_rfl) (fun _ _ _ h => h) (Or.inl ⟨by rfl, ?_⟩) (by assumption) ?_
  rotate_left 1
  · (intro w0 hSw; (try dsimp only at hSw); go_split_ands; go_simp; (try with_reducible rfl))
  try simp only [Act.put, List.setIfInBounds_toArray, List.set_cons_zero, List.set_cons_succ, List.getElem_toArray, List.getElem_cons_zero, List.getElem_cons_succ]
  refine' rl_take (i := 5) (v := _) rfl (by kernel_rfl) (by kernel_rfl) (by kernel_rfl) (by kernel_rfl) (fun _ _ _ h => h) (yieldsIf_load_mid (by rfl) 86 (.tmp 7) rfl w.heap.size 0 rfl wl _ (fun _ h => h.2) hu rfl hi) (by assumption) ?_
  try simp only [Act.put, List.setIfInBounds_toArray, List.set_cons_zero, List.set_cons_succ, List.getElem_toArray, List.getElem_cons_zero, List.getElem_cons_succ]
  refine rl_act (i := 6) (by kernel_rfl) rfl (fun K hK => ?_)
  (refine st_buildSlice rfl 80 1 #[(0, .tmp 43)] #[(0, .agg wl.toArray)] rfl (by simp [Act.eval]) ?_; refine ⟨_, _, run_buildSlice_one _ Tryd.underlying80 info_write (cs := wl.toArray) (by simpa using hwl1) (by omega) (by omega), ?_⟩; try simp only [Act.put, List.setIfInBounds_toArray, List.set_cons_zero, List.set_cons_succ, List.getElem_toArray, List.getElem_cons_zero, List.getElem_cons_succ])
  refine hK.out _ _ ?_ (fun hHeld => ?_)
  · exact ⟨(World.cell?_alloc_lt _ _ ⟨b, 5, none⟩ (by simpa using hbl3)).trans hHeld.1, World.rangeAt_alloc hHeld.2 _⟩
  clear hK K
  try simp only [Act.put, List.setIfInBounds_toArray, List.set_cons_zero, List.set_cons_succ, List.getElem_toArray, List.getElem_cons_zero, List.getElem_cons_succ]
  refine rl_act (i := 7) (by kernel_rfl) rfl (fun K hK => ?_)
  obtain ⟨i0, hi0, hz0, hz1, hz2⟩ := info_parts info_write
  have l1 : (w3.drew.alloc (.cells wl.toArray 86)).ownsRow 0 86 257 (.slice aq d.q.length cq) d.q.length (qCells d.q) := (show w3.drew.ownsRow _ _ _ _ _ _ from kq).alloc _
  have l2 : ∀ j u, wl[j]? = some u → (w3.drew.alloc (.cells wl.toArray 86)).cell? ((⟨w3.heap.size, 0, none⟩ : Addr).add j) = some u := World.news_of_block (cs := wl.toArray) (t := 86) (fr := (0, 0)) (heap_new_at rfl)
  have l3 : ∀ u ∈ wl, u.oneCell' = true := by
    rw [HWL.out]
    intro u hu'
    rcases List.mem_cons.1 hu' with rfl | hu'
    · rfl
    · exact B_one data u hu'
  have l4 : wl.length = 1 * 257 := hwl1
  have l5 : (w3.drew.alloc (.cells wl.toArray 86)).heap.size = w3.heap.size + 1 := by simp
  refine step_append_lies _ rfl (.tmp 42) (.tmp 44) 80 rfl 0 86 i0 (.agg Tryd.zeroCells86) 257 264 Tryd.underlying80 hi0 hz0 hz1 hz2 cells_zero_write (by omega) (.slice aq d.q.length cq) d.q.length (qCells d.q) (by rfl) l1 ⟨w3.heap.size, 0, none⟩ 1 1 wl (by rfl) l4 l2 l3 (by omega) (by simp only [maxLen]; omega) (by omega) (by omega) (w3.heap.size + 1) l5 ?_
  intro gq cap w4 hown4 hgr4 hat4 hlt4
  have hbq : (Value.slice aq d.q.length cq).ownBlock ≠ some b := fun e => (HN.out.2.2.2 b e).1 rfl
  have far4 : ∀ j, w4.cell? ⟨b, j, none⟩ = w3.cell? ⟨b, j, none⟩ := fun j => by
    rw [hgr4.cell_far ⟨b, j, none⟩ (by simp; omega) (fun e => hbq e.symm)]
    exact World.cell?_alloc_lt _ _ ⟨b, j, none⟩ (by simpa using hbl3)
  have free4 : ∀ j, w4.frozen? ⟨b, j, none⟩ = false := fun j => by
    rw [hgr4.frozen_far ⟨b, j, none⟩ (by simp; omega) (fun e => hbq e.symm)]
    exact (World.frozen?_alloc_old _ _ ⟨b, j, none⟩ (Nat.ne_of_lt (by simpa using hbl3))).trans (kf j)
  have m1 := (far4 1).trans k1
  have m3 := (far4 3).trans k3
  have m5 := (far4 5).trans k5
  have m7 := (far4 7).trans k7
  have m8 := (far4 8).trans k8
  have HF4 := Lib.hid far4
  have HOWN4 := Lib.hid hown4
  have HGR4 := Lib.hid hgr4
  have HAT4 := Lib.hid hat4
  clear far4 hown4 hgr4 hat4 l1 l2 l3 l4 l5 kq
  refine hK.out _ _ ?_ (fun hHeld => ?_)
  · refine ⟨m5, rangeAt_of_heap kr ?_⟩
    rw [HGR4.out.block w.heap.size (by simp; omega) (fun e => by have := (hI.queue.lt w.heap.size e.symm).2; omega)]
    exact heap_old_at (by simpa using Nat.lt_of_succ_le hsz')
  clear hK K
  try simp only [Act.put, List.setIfInBounds_toArray, List.set_cons_zero, List.set_cons_succ, List.getElem_toArray, List.getElem_cons_zero, List.getElem_cons_succ]
  refine rl_act (i := 8) (by kernel_rfl) rfl (fun K hK => ?_)
  go_simp
  refine hK.out _ _ ?_ (fun hHeld => ?_)
  · exact hHeld
  clear hK K
  try simp only [Act.put, List.setIfInBounds_toArray, List.set_cons_zero, List.set_cons_succ, List.getElem_toArray, List.getElem_cons_zero, List.getElem_cons_succ]
  refine' rl_take (i := 9) (v := _) rfl (by kernel_rfl) (by kernel_rfl) (by kernel_rfl) (by kernel_rfl) (fun _ _ _ h => h) (Or.inl ⟨by rfl, ?_⟩) (by assumption) ?_
  rotate_left 1
  · (intro w0 hSw; (try dsimp only at hSw); go_split_ands; go_simp; (try with_reducible rfl))
  try simp only [Act.put, List.setIfInBounds_toArray, List.set_cons_zero, List.set_cons_succ, List.getElem_toArray, List.getElem_cons_zero, List.getElem_cons_succ]
  refine rl_last (by kernel_rfl) (by kernel_rfl) rfl (fun K hK => ?_)
  go_simp
  refine hK.out _ _ ?_
  clear hK K
  try simp only [Act.put, List.setIfInBounds_toArray, List.set_cons_zero, List.set_cons_succ, List.getElem_toArray, List.getElem_cons_zero, List.getElem_cons_succ]
  have p7 : (((w4.setCell ⟨b, 5, none⟩ (.slice (some ⟨gq, 0, none⟩) (d.q.length + 1) cap)).setCell ⟨b, 1, none⟩ (.int .i64 (wrap64 (d.writes + 1)))).setCell ⟨b, 3, none⟩ (.int .i64 (d.q.length + 1))).cell? ⟨b, 7, none⟩ = some (.int .i64 d.armed) := by go_simp
  have p8 : (((w4.setCell ⟨b, 5, none⟩ (.slice (some ⟨gq, 0, none⟩) (d.q.length + 1) cap)).setCell ⟨b, 1, none⟩ (.int .i64 (wrap64 (d.writes + 1)))).setCell ⟨b, 3, none⟩ (.int .i64 (d.q.length + 1))).cell? ⟨b, 8, none⟩ = some (.bool false) := by go_simp
  have hok := hI.ok
  go_wp2_with fail
  refine (dAct_any p7 p8 (by go_simp) (by go_simp) hok.2.2.2.2.1 hok.2.2.2.2.2).mono ?_
  rintro e w5 ⟨rfl, hw5⟩
  have HW5 := Lib.hid hw5
  clear hw5
  go_wp2_with fail
  all_goals
    go_ret
    refine ⟨rfl, .slice (some ⟨gq, 0, none⟩) (d.q.length + 1) cap, ?_⟩
    obtain ⟨a1, a2, a3, a4⟩ := HN.out
    have hg4 := HGR4.out
    have hg3 := HG.out
    have hq4 : ∀ k, (Value.slice aq d.q.length cq).ownBlock = some k → k < w.heap.size := fun k hk => (hI.queue.lt k hk).2
    have root4 : w4.heap[b]? = some (.cells (dCells d bp (.slice aq d.q.length cq) bm) 83 (0, 0)) := by
      rw [hg4.block b (by simp; omega) (fun e => hbq e.symm), show (w3.drew.alloc (.cells wl.toArray 86)).heap[b]? = w3.heap[b]? from heap_old_at hbl3]; exact HKR.out
    have lp := lt_of_heap hI.pages
    have pages4 : w4.heap[bp]? = some (.cells (d.img.map B).toArray 84 (0, 0)) := by
      rw [hg4.block bp (by simp; omega) (fun e => (a4 bp e.symm).2.1 rfl), show (w3.drew.alloc (.cells wl.toArray 86)).heap[bp]? = w3.heap[bp]? from heap_old_at (by show bp < w3.heap.size; omega)]; exact HKP.out
    have map4 : IMap Tryd.prog w4 3 bm (d.q ++ [(page, data)]).length (newest (d.q ++ [(page, data)])) := by
      rw [newest_snoc, List.length_append]
      refine HM.out.keep ?_
      rw [hg4.block bm (by simp; omega) (fun e => (a4 bm e.symm).2.2 rfl)]
      exact heap_old_at (by show bm < w3.heap.size; omega)
    have own4 : w4.ownsRow 0 86 257 (.slice (some ⟨gq, 0, none⟩) (d.q.length + 1) cap) (d.q ++ [(page, data)]).length (qCells (d.q ++ [(page, data)])) := by
      rw [qCells_snoc, List.length_append, ← HWL.out]
      exact HOWN4.out
    have hok1 : D.ok { d with q := d.q ++ [(page, data)], writes := wrap64 (d.writes + 1) } := by
      obtain ⟨o1, o2, o3, o4, o5, o6⟩ := hok
      refine ⟨o1, o2, o3, ?_, o5, o6⟩
      intro p hp'
      rcases List.mem_append.1 hp' with hp' | hp'
      · exact o4 p hp'
      · obtain rfl : p = (page, data) := by simpa using hp'
        exact ⟨hp, hl⟩
    have hat : gq ≠ b := by
      rcases HAT4.out with e | e
      · intro e'; subst e'; exact hbq e
      · omega
    have hin := write_close (d := d) (d1 := { d with q := d.q ++ [(page, data)], writes := wrap64 (d.writes + 1) }) hok1 root4 pages4 own4 map4 a1 a2 (by simpa [Value.ownBlock] using hat) (wrap64 (d.writes + 1)) (d.q.length + 1) rfl (by simp)
    obtain ⟨hact, hk5⟩ := act_close hin HD.out HW5.out
    refine ⟨hact, ?_, ?_⟩
    · have k3 : Keeps (b :: bp :: bm :: (Value.slice aq d.q.length cq).ownBlock.toList) w w3 := (((Keeps.refl _ _).alloc _).drew).grown hg3 (by simp)
      have k4 : Keeps (b :: bp :: bm :: (Value.slice aq d.q.length cq).ownBlock.toList) w w4 := ((k3.drew).alloc _).grown hg4 (fun k hk => .inl (by simp [hk]))
      exact (((k4.setCell (.inl (by simp)) _).setCell (.inl (by simp)) _).setCell (.inl (by simp)) _).trans hk5 (by simp)
    · rcases HAT4.out with e | e
      · exact .inl e.symm
      · exact .inr ⟨gq, rfl, by omega⟩
end Go.Proofs.YtojlojdkhegbkaaDoor

/-
  Rings of nodes that are linked both ways through memory: each node's address, its cell 'prev' four behind it, its cell 'next' five behind it.
-/
namespace Go.Proofs.YtojlojdkhegbkaaDoor
set_option linter.unusedVariables false
set_option linter.unusedSimpArgs false
open Go.RowKit

/-- A node: the block and the place in it. -/
structure Nd where
  b : Nat
  o : Nat
deriving DecidableEq
def Nd.a (x : Nd) : Addr := ⟨x.b, x.o, none⟩
def Nd.prv (x : Nd) : Addr := ⟨x.b, x.o + 4, none⟩
def Nd.nxt (x : Nd) : Addr := ⟨x.b, x.o + 5, none⟩
def Nd.v (x : Nd) : Value := .pointer (some ⟨x.b, x.o, none⟩)
/-- Two nodes share no cell of their links: they are in other blocks, or far enough from one another. -/
def Nd.off (x y : Nd) : Prop := x.b ≠ y.b ∨ x.o + 2 ≤ y.o ∨ y.o + 2 ≤ x.o
/-- x is linked with y. -/
def Link (w : World) (x y : Nd) : Prop := w.cell? x.nxt = some y.v ∧ w.cell? y.prv = some x.v
/-- The links from x on through l. -/
def Seg (w : World) : Nd → List Nd → Prop
  | _, [] => True
  | x, y :: l => Link w x y ∧ Seg w y l
def lastOf : Nd → List Nd → Nd
  | x, [] => x
  | _, y :: l => lastOf y l
/-- The ring of a root with the nodes l. -/
structure Ring (w : World) (r : Nd) (l : List Nd) : Prop where
  seg : Seg w r l
  back : Link w (lastOf r l) r
  apart : (r :: l).Pairwise Nd.off

theorem lastOf_mem (x : Nd) : ∀ l, lastOf x l ∈ x :: l := by
  intro l
  induction l generalizing x with
  | nil => simp [lastOf]
  | cons y l ih => exact List.mem_cons_of_mem _ (ih y)
theorem lastOf_snoc (x : Nd) : ∀ l y, lastOf x (l ++ [y]) = y := by
  intro l
  induction l generalizing x with
  | nil => intro y; rfl
  | cons z l ih => intro y; exact ih z y
theorem lastOf_append (x : Nd) (l : List Nd) (y : Nd) (m : List Nd) : lastOf x (l ++ y :: m) = lastOf y m := by
  induction l generalizing x with
  | nil => rfl
  | cons z l ih => exact ih z
theorem Seg_append {w : World} {x : Nd} {l : List Nd} {y : Nd} {m : List Nd} : Seg w x (l ++ y :: m) ↔ Seg w x l ∧ Link w (lastOf x l) y ∧ Seg w y m := by
  induction l generalizing x with
  | nil => simp [Seg, lastOf]
  | cons z l ih => simp only [List.cons_append, Seg, lastOf, ih, and_assoc]
theorem Seg_congr {w w' : World} {x : Nd} {l : List Nd} (h : Seg w x l) (hn : ∀ y ∈ x :: l, y ≠ lastOf x l → w'.cell? y.nxt = w.cell? y.nxt) (hp : ∀ y ∈ l, w'.cell? y.prv = w.cell? y.prv) (ha : (x :: l).Pairwise Nd.off) : Seg w' x l := by
  induction l generalizing x with
  | nil => trivial
  | cons z l ih =>
    obtain ⟨⟨h1, h2⟩, h3⟩ := h
    have hne : x ≠ lastOf z l := fun e => by
      have := (List.pairwise_cons.1 ha).1 _ (lastOf_mem z l)
      rw [← e] at this
      unfold Nd.off at this
      omega
    refine ⟨⟨(hn x (by simp) hne).trans h1, (hp z (by simp)).trans h2⟩, ih h3 (fun y hy hyl => hn y (List.mem_cons_of_mem _ hy) hyl) (fun y hy => hp y (List.mem_cons_of_mem _ hy)) (List.pairwise_cons.1 ha).2⟩
/-- Nothing of the ring's links has turned. -/
theorem Ring.congr {w w' : World} {r : Nd} {l : List Nd} (h : Ring w r l) (hc : ∀ y ∈ r :: l, w'.cell? y.nxt = w.cell? y.nxt ∧ w'.cell? y.prv = w.cell? y.prv) : Ring w' r l :=
  ⟨Seg_congr h.seg (fun y hy _ => (hc y hy).1) (fun y hy => (hc y (List.mem_cons_of_mem _ hy)).2) h.apart,
    ⟨(hc _ (lastOf_mem r l)).1.trans h.back.1, (hc r (by simp)).2.trans h.back.2⟩, h.apart⟩
theorem Nd.off.symm {x y : Nd} (h : x.off y) : y.off x := by unfold Nd.off at *; omega
theorem Nd.off.ne {x y : Nd} (h : x.off y) : x ≠ y := fun e => by subst e; unfold Nd.off at h; omega
theorem set_nxt_nxt {w : World} {x y : Nd} (v : Value) (h : x.off y) : (w.setCell x.nxt v).cell? y.nxt = w.cell? y.nxt :=
  World.cell?_setCell_other w _ _ v (fun e => by unfold Nd.off at h; simp only [Nd.nxt, Addr.mk.injEq] at e; omega)
theorem set_prv_prv {w : World} {x y : Nd} (v : Value) (h : x.off y) : (w.setCell x.prv v).cell? y.prv = w.cell? y.prv :=
  World.cell?_setCell_other w _ _ v (fun e => by unfold Nd.off at h; simp only [Nd.prv, Addr.mk.injEq] at e; omega)
theorem set_nxt_prv {w : World} {x y : Nd} (v : Value) (h : x.off y) : (w.setCell x.nxt v).cell? y.prv = w.cell? y.prv :=
  World.cell?_setCell_other w _ _ v (fun e => by unfold Nd.off at h; simp only [Nd.nxt, Nd.prv, Addr.mk.injEq] at e; omega)
theorem set_prv_nxt {w : World} {x y : Nd} (v : Value) (h : x.off y) : (w.setCell x.prv v).cell? y.nxt = w.cell? y.nxt :=
  World.cell?_setCell_other w _ _ v (fun e => by unfold Nd.off at h; simp only [Nd.nxt, Nd.prv, Addr.mk.injEq] at e; omega)
theorem set_nxt_prv_self {w : World} {x : Nd} (v : Value) : (w.setCell x.nxt v).cell? x.prv = w.cell? x.prv :=
  World.cell?_setCell_other w _ _ v (fun e => by simp only [Nd.nxt, Nd.prv, Addr.mk.injEq] at e; omega)
theorem set_prv_nxt_self {w : World} {x : Nd} (v : Value) : (w.setCell x.prv v).cell? x.nxt = w.cell? x.nxt :=
  World.cell?_setCell_other w _ _ v (fun e => by simp only [Nd.nxt, Nd.prv, Addr.mk.injEq] at e; omega)
/-- A node is put at the end. -/
theorem Ring.last {w w' : World} {r e : Nd} {l : List Nd} (h : Ring w r l) (he : ∀ y ∈ r :: l, y.off e) (c1 : w'.cell? e.prv = some (lastOf r l).v) (c2 : w'.cell? e.nxt = some r.v) (c3 : w'.cell? (lastOf r l).nxt = some e.v) (c4 : w'.cell? r.prv = some e.v)
    (hn : ∀ y ∈ r :: l, y ≠ lastOf r l → w'.cell? y.nxt = w.cell? y.nxt) (hp : ∀ y ∈ l, w'.cell? y.prv = w.cell? y.prv) : Ring w' r (l ++ [e]) := by
  refine ⟨Seg_append.2 ⟨Seg_congr h.seg hn hp h.apart, ⟨c3, c1⟩, trivial⟩, ?_, ?_⟩
  · rw [lastOf_snoc]; exact ⟨c2, c4⟩
  · rw [← List.cons_append, List.pairwise_append]
    exact ⟨h.apart, by simp, fun y hy z hz => by obtain rfl : z = e := by simpa using hz
                                                 exact he y hy⟩
def headOr (r : Nd) : List Nd → Nd
  | [] => r
  | y :: _ => y
theorem headOr_mem (r : Nd) (b : List Nd) : headOr r b ∈ r :: b := by cases b <;> simp [headOr]
/-- What a node within is linked with. -/
theorem Ring.around {w : World} {r e : Nd} {a b : List Nd} (h : Ring w r (a ++ e :: b)) : Link w (lastOf r a) e ∧ Link w e (headOr r b) := by
  obtain ⟨h1, h2, h3⟩ := Seg_append.1 h.seg
  refine ⟨h2, ?_⟩
  have hb := h.back
  rw [lastOf_append] at hb
  cases b with
  | nil => exact hb
  | cons y b => exact h3.1
theorem lastOf_off {r : Nd} {a : List Nd} {y : Nd} (h : ∀ z ∈ r :: a, z.off y) : (lastOf r a).off y := h _ (lastOf_mem r a)
/-- A node is taken out. -/
theorem Ring.drop {w w' : World} {r e : Nd} {a b : List Nd} (h : Ring w r (a ++ e :: b)) (c1 : w'.cell? (lastOf r a).nxt = some (headOr r b).v) (c2 : w'.cell? (headOr r b).prv = some (lastOf r a).v)
    (hn : ∀ y ∈ r :: (a ++ b), y ≠ lastOf r a → w'.cell? y.nxt = w.cell? y.nxt) (hp : ∀ y ∈ r :: (a ++ b), y ≠ headOr r b → w'.cell? y.prv = w.cell? y.prv) : Ring w' r (a ++ b) := by
  obtain ⟨h1, h2, h3⟩ := Seg_append.1 h.seg
  have hb := h.back
  rw [lastOf_append] at hb
  have hap : (r :: (a ++ b)).Pairwise Nd.off := h.apart.sublist (by simp)
  have hap' : ((r :: a) ++ b).Pairwise Nd.off := by simpa using hap
  obtain ⟨pa, pb, pab⟩ := List.pairwise_append.1 hap'
  have key : ∀ y ∈ a, y ≠ headOr r b := fun y hy e => by
    rcases List.mem_cons.1 (headOr_mem r b) with e1 | e1
    · have := (List.pairwise_cons.1 pa).1 y hy
      rw [e, e1] at this
      exact this.ne rfl
    · exact (pab y (List.mem_cons_of_mem _ hy) _ e1).ne e
  have s1 : Seg w' r a := Seg_congr h1 (fun y hy hyl => hn y (by rw [← List.cons_append]; exact List.mem_append_left _ hy) hyl) (fun y hy => hp y (List.mem_cons_of_mem _ (List.mem_append_left _ hy)) (key y hy)) pa
  cases b with
  | nil =>
    rw [List.append_nil] at hap ⊢
    exact ⟨s1, ⟨c1, c2⟩, hap⟩
  | cons n b =>
    have hne : ∀ y ∈ n :: b, y ≠ lastOf r a := fun y hy e => (pab _ (lastOf_mem r a) y hy).ne e.symm
    have s2 : Seg w' n b := Seg_congr h3.2 (fun y hy hyl => hn y (List.mem_cons_of_mem _ (List.mem_append_right _ hy)) (hne y hy)) (fun y hy => hp y (List.mem_cons_of_mem _ (List.mem_append_right _ (List.mem_cons_of_mem _ hy))) (fun e => by
      have := (List.pairwise_cons.1 pb).1 y hy
      rw [e] at this
      exact this.ne rfl)) pb
    refine ⟨Seg_append.2 ⟨s1, ⟨c1, c2⟩, s2⟩, ?_, hap⟩
    rw [lastOf_append]
    refine ⟨(hn _ (List.mem_cons_of_mem _ (List.mem_append_right _ (lastOf_mem n b))) (hne _ (lastOf_mem n b))).trans hb.1, (hp r (by simp) (fun e => ?_)).trans hb.2⟩
    exact (pab r (by simp) n (by simp)).ne e
/-- A new ring. -/
theorem Ring.start {w : World} {r : Nd} (c1 : w.cell? r.nxt = some r.v) (c2 : w.cell? r.prv = some r.v) : Ring w r [] := ⟨trivial, ⟨c1, c2⟩, by simp⟩
end Go.Proofs.YtojlojdkhegbkaaDoor

/-
  A map from int to pointers to whole blocks, as a function.
-/
namespace Go.Proofs.YtojlojdkhegbkaaDoor
set_option linter.unusedVariables false
set_option linter.unusedSimpArgs false
open Go.RowKit Go.ChangeMaps Go.MapKept
open Go.Maps (Keyed int_keyed keyOf_int_mk)

/-- How a pointer reads: nil as -1, one to a block's head as that block's number. -/
def ptrElem : Value → Option (DataW Unit × List MemPlace)
  | .pointer none => some (.lit (.int .i64 (-1)), [])
  | .pointer (some ⟨b, 0, none⟩) => some (.lit (.int .i64 b), [])
  | _ => none
theorem ptrElem_nil : ptrElem (.pointer none) = some (.lit (.int .i64 (-1)), []) := rfl
theorem ptrElem_some (b : Nat) : ptrElem (.pointer (some ⟨b, 0, none⟩)) = some (.lit (.int .i64 b), []) := rfl
theorem ptrElem_inv {v : Value} {i : Int} {ps : List MemPlace} (h : ptrElem v = some (.lit (.int .i64 i), ps)) : (i = -1 ∧ v = .pointer none) ∨ ∃ b : Nat, i = b ∧ v = .pointer (some ⟨b, 0, none⟩) := by
  unfold ptrElem at h
  split at h
  · simp only [Option.some.injEq, Prod.mk.injEq, DataW.lit.injEq, Lit.int.injEq] at h
    exact .inl ⟨h.1.2.symm, rfl⟩
  · rename_i b
    simp only [Option.some.injEq, Prod.mk.injEq, DataW.lit.injEq, Lit.int.injEq] at h
    exact .inr ⟨b, h.1.2.symm, rfl⟩
  · cases h
/-- The pointer that a map of f holds under a key. -/
def ptrOf : Option Nat → Value
  | some b => .pointer (some ⟨b, 0, none⟩)
  | none => .pointer none
theorem ptrElem_of (o : Option Nat) : ptrElem (ptrOf o) = some (.lit (.int .i64 (match o with | some b => (b : Int) | none => -1)), []) := by cases o <;> rfl

/-- The map m of at most n entries holds under each int k a pointer to the block that f says. -/
def PMap (P : Program) (w : World) (ti : TypeId) (b n : Nat) (f : Int → Option Nat) : Prop :=
  ∃ D : DataW Unit, w.ownsMap P ti ptrElem b n D ∧ ∀ k, (Lit.int .i64 k).wf = true → Maps.has D (.int .i64 k) = (f k).isSome ∧ ∀ z, D.atKey (.int .i64 k) z = match f k with | some v => .lit (.int .i64 v) | none => z

section
variable {P : Program} {w w' : World} {ti tm te : TypeId} {b n : Nat} {f : Int → Option Nat}
theorem PMap.lt (h : PMap P w ti b n f) : b < w.heap.size := by obtain ⟨D, h, _⟩ := h; exact h.lt
theorem PMap.keep (h : PMap P w ti b n f) (hb : w'.heap[b]? = w.heap[b]?) : PMap P w' ti b n f := by
  obtain ⟨D, ⟨es, clock, h1, h2⟩, h3⟩ := h
  exact ⟨D, ⟨es, clock, hb.trans h1, h2⟩, h3⟩
theorem PMap.isMap (h : PMap P w ti b n f) : ∃ es clock, w.heap[b]? = some (.map es clock) := by
  obtain ⟨D, ⟨es, clock, h1, h2⟩, h3⟩ := h
  exact ⟨es, clock, h1⟩
theorem PMap.mono {n' : Nat} (h : PMap P w ti b n f) (hn : n ≤ n') : PMap P w ti b n' f := by
  obtain ⟨D, h, h3⟩ := h
  exact ⟨D, h.mono hn, h3⟩
theorem PMap.congr {f' : Int → Option Nat} (h : PMap P w ti b n f) (hf : ∀ k, (Lit.int .i64 k).wf = true → f' k = f k) : PMap P w ti b n f' := by
  obtain ⟨D, h, h3⟩ := h
  exact ⟨D, h, fun k hk => by rw [hf k hk]; exact h3 k hk⟩
theorem PMap_empty {es : Array MapEntry} (clock : Nat) (he : es = #[]) (hb : w.heap[b]? = some (.map es clock)) : PMap P w ti b 0 (fun _ => none) := by
  subst he
  refine ⟨.map [], ⟨#[], clock, hb, ⟨by simp, stamped_empty clock, by simp⟩, Nat.le_refl _, rfl⟩, fun k _ => ⟨rfl, fun z => rfl⟩⟩
theorem PMap.look (h : PMap P w ti b n f) (hi : P.underlying ti = some (.int .i64)) (ht : P.underlying tm = some (.map ti te)) (hz : (zeroValue te).run P w = .ok (.pointer none) w) {k : Int} (hk : (Lit.int .i64 k).wf = true) :
    (Instr.lookup tm (.map (some b)) (.int .i64 k) false).run P w = .ok (ptrOf (f k)) w := by
  obtain ⟨D, h, h3⟩ := h
  obtain ⟨v, ps, hrun, hv⟩ := h.lookup (int_keyed hi) ht hz ptrElem_nil (keyOf_int_mk hi hk)
  rw [hrun]
  have e := (h3 k hk).2 (.lit (.int .i64 (-1)))
  rw [e] at hv
  cases hf : f k with
  | none =>
    rw [hf] at hv
    rcases ptrElem_inv hv with ⟨_, rfl⟩ | ⟨b', hb', _⟩
    · rfl
    · omega
  | some x =>
    rw [hf] at hv
    rcases ptrElem_inv hv with ⟨hb', _⟩ | ⟨b', hb', rfl⟩
    · omega
    · have : x = b' := by omega
      subst this
      rfl
theorem PMap.put (h : PMap P w ti b n f) (hi : P.underlying ti = some (.int .i64)) (ht : P.underlying tm = some (.map ti te)) (hn : n < maxLen) {k : Int} {v : Nat} (hk : (Lit.int .i64 k).wf = true) :
    ∃ w', (Instr.mapUpdate tm (.map (some b)) (.int .i64 k) (.pointer (some ⟨v, 0, none⟩))).run P w = .ok () w' ∧ PMap P w' ti b (n + 1) (fun j => if j = k then some v else f j) ∧ w.grownBy w' (some b) ∧ w'.heap.size = w.heap.size := by
  obtain ⟨D, h, h3⟩ := h
  obtain ⟨w', hrun, hown, hturn⟩ := h.store (int_keyed hi) ht hn (keyOf_int_mk hi hk) (ptrElem_some v)
  have hs : w'.heap.size = w.heap.size := by
    obtain ⟨_, _, _, _, _, rfl⟩ := hturn
    simp [setBlock]
  refine ⟨w', hrun, ⟨_, hown, fun j hj => ?_⟩, hturn.grown, hs⟩
  have hM := h.isMap
  by_cases e : j = k
  · subst e
    refine ⟨?_, fun z => ?_⟩
    · simp only [if_true]
      exact Maps.has_put_same hM (by first | exact ⟨_, _, rfl, hk⟩ | simp [WideAt.IsKeyLit]) _
    · simp only [if_true]
      exact Maps.atKey_put_same hM (by first | exact ⟨_, _, rfl, hk⟩ | simp [WideAt.IsKeyLit]) _ _
  · have hne : (Lit.int .i64 j) ≠ .int .i64 k := fun he => e (by simpa using he)
    refine ⟨?_, fun z => ?_⟩
    · rw [Maps.has_put_other hne]; simp only [if_neg e]; exact (h3 j hj).1
    · rw [Maps.atKey_put_other hne]; simp only [if_neg e]; exact (h3 j hj).2 z
theorem PMap.drop (h : PMap P w ti b n f) (hi : P.underlying ti = some (.int .i64)) (ht : P.underlying tm = some (.map ti te)) {k : Int} (hk : (Lit.int .i64 k).wf = true) :
    ∃ w', (∀ ty, (Builtin.delete_ #[tm, ti] ty #[.map (some b), .int .i64 k]).run P w = .ok (.tuple #[]) w') ∧ PMap P w' ti b n (fun j => if j = k then none else f j) ∧ w.grownBy w' (some b) ∧ w'.heap.size = w.heap.size := by
  obtain ⟨D, h, h3⟩ := h
  obtain ⟨w', hrun, hown, hturn⟩ := h.drop (int_keyed hi) ht (keyOf_int_mk hi hk) ti
  have hs : w'.heap.size = w.heap.size := by
    obtain ⟨_, _, _, _, _, rfl⟩ := hturn
    simp [setBlock]
  refine ⟨w', fun ty => ?_, ⟨_, hown, fun j hj => ?_⟩, hturn.grown, hs⟩
  · obtain ⟨w2, hrun2, _, _⟩ := h.drop (int_keyed hi) ht (keyOf_int_mk hi hk) ty
    have e : (Builtin.delete_ #[tm, ti] ty #[.map (some b), .int .i64 k]).run P w = (Builtin.delete_ #[tm, ti] ti #[.map (some b), .int .i64 k]).run P w := rfl
    rw [e]; exact hrun
  · have hM := h.isMap
    by_cases e : j = k
    · subst e
      refine ⟨?_, fun z => ?_⟩
      · simp only [if_true]
        exact Maps.has_del_same
      · simp only [if_true]
        exact Maps.atKey_del_same _
    · have hne : (Lit.int .i64 j) ≠ .int .i64 k := fun he => e (by simpa using he)
      refine ⟨?_, fun z => ?_⟩
      · rw [Maps.has_del_other hne]; simp only [if_neg e]; exact (h3 j hj).1
      · rw [Maps.atKey_del_other hne]; simp only [if_neg e]; exact (h3 j hj).2 z
end
end Go.Proofs.YtojlojdkhegbkaaDoor
