/-
  General lemmas for the walks of this seat: what a call keeps (by blocks), bytes as cells, a map from int to int.
  They speak of no function of the program.
-/
import Derived.Test.YtbjffjplpnnhoaaRows
import Derived.WalkKit
import Derived.WalkSpells
import Derived.WalkLawsBesides
import Derived.BigQuiet
import Derived.Deep.QuietTactic
import Derived.Deep.RegionHeld3
import Derived.Deep.AppendLies
import Derived.Deep.MidRow
import Derived.Deep.WholeRow
import Derived.Deep.DrawnRows
import Derived.StillTailTactics
import Derived.Maps.OwnSet
import Derived.Maps.OwnOps
import Derived.Lib.Hide
namespace Go.Proofs.Ytbjffjplpnnhoaa
set_option linter.unusedVariables false
set_option linter.unusedSimpArgs false
open Go.RowKit Go.ChangeMaps Go.MapKept
open Go.Maps (Keyed int_keyed keyOf_int_mk)

/-! ### what a call keeps -/
/-- Of what was there in w only the blocks of F may have turned in w'. -/
structure Keeps (F : List Nat) (w w' : World) : Prop where
  os : w'.os = w.os
  tape : w'.tape = w.tape
  output : w'.output = w.output
  size : w.heap.size ≤ w'.heap.size
  block : ∀ k, k < w.heap.size → k ∉ F → w'.heap[k]? = w.heap[k]?

namespace Keeps
variable {F G : List Nat} {a w w' w1 w2 : World}
theorem refl (F : List Nat) (w : World) : Keeps F w w := ⟨rfl, rfl, rfl, Nat.le_refl _, fun _ _ _ => rfl⟩
theorem trans (h : Keeps F w w1) (h1 : Keeps G w1 w2) (hs : ∀ k ∈ G, k ∈ F ∨ w.heap.size ≤ k) : Keeps F w w2 :=
  ⟨h1.os.trans h.os, h1.tape.trans h.tape, h1.output.trans h.output, Nat.le_trans h.size h1.size, fun k hk hn =>
    (h1.block k (Nat.lt_of_lt_of_le hk h.size) (fun hg => (hs k hg).elim hn (fun hle => by omega))).trans (h.block k hk hn)⟩
theorem mono (h : Keeps F w w') (hs : ∀ k ∈ F, k ∈ G ∨ w.heap.size ≤ k) : Keeps G w w' :=
  ⟨h.os, h.tape, h.output, h.size, fun k hk hn => h.block k hk (fun hf => (hs k hf).elim hn (fun hle => by omega))⟩
theorem drew (h : Keeps F a w) : Keeps F a w.drew := ⟨h.os, h.tape, h.output, h.size, h.block⟩
theorem drewN (h : Keeps F a w) (n : Nat) : Keeps F a (w.drewN n) := ⟨h.os, h.tape, h.output, h.size, h.block⟩
theorem alloc (h : Keeps F a w) (o : Obj) : Keeps F a (w.alloc o) :=
  ⟨h.os, h.tape, h.output, Nat.le_trans h.size (by simp), fun k hk hn => (Below.heap_alloc w o k (Nat.lt_of_lt_of_le hk h.size)).trans (h.block k hk hn)⟩
theorem setCell (h : Keeps F a w) {p : Addr} (hp : p.block ∈ F ∨ a.heap.size ≤ p.block) (u : Value) : Keeps F a (w.setCell p u) :=
  ⟨h.os, h.tape, h.output, by simpa [World.setCell] using h.size, fun k hk hn =>
    (Below.heap_setCell w p u k (fun e => by subst e; exact hp.elim hn (fun hle => by omega))).trans (h.block k hk hn)⟩
theorem grown {row : Option Nat} (h : Keeps F a w) (hg : w.grownBy w' row) (hr : ∀ k, row = some k → k ∈ F ∨ a.heap.size ≤ k) : Keeps F a w' :=
  ⟨hg.os.trans h.os, hg.tape.trans h.tape, hg.output.trans h.output, Nat.le_trans h.size hg.size, fun k hk hn =>
    (hg.block k (Nat.lt_of_lt_of_le hk h.size) (fun e => (hr k e.symm).elim hn (fun hle => by omega))).trans (h.block k hk hn)⟩
theorem below (h : Keeps F w w') {n : Nat} (hn : n ≤ w.heap.size) (hF : ∀ k ∈ F, n ≤ k) : Below n w w' :=
  ⟨h.os, h.tape, h.output, h.size, fun k hk => h.block k (by omega) (fun hf => by have := hF k hf; omega)⟩
theorem of_below {n : Nat} (h : Below n w w') (hF : ∀ k, n ≤ k → k < w.heap.size → k ∈ F) : Keeps F w w' :=
  ⟨h.os, h.tape, h.output, h.size, fun k hk hn => h.block k (by
    rcases Nat.lt_or_ge k n with hlt | hge
    · exact hlt
    · exact absurd (hF k hge hk) hn)⟩
end Keeps

theorem heap_setCells_other (b o k : Nat) (hk : k ≠ b) : ∀ (vs : List Value) (w : World), (w.setCells b o vs).heap[k]? = w.heap[k]? := by
  intro vs
  induction vs generalizing o with
  | nil => intro w; rfl
  | cons v vs ih => intro w; rw [World.setCells, ih]; exact Below.heap_setCell _ _ _ _ (by simpa using hk)
theorem size_setCells (b o : Nat) : ∀ (vs : List Value) (w : World), (w.setCells b o vs).heap.size = w.heap.size := by
  intro vs
  induction vs generalizing o with
  | nil => intro w; rfl
  | cons v vs ih => intro w; rw [World.setCells, ih]; simp [World.setCell]
theorem setCells_rest (b o : Nat) : ∀ (vs : List Value) (w : World), (w.setCells b o vs).os = w.os ∧ (w.setCells b o vs).tape = w.tape ∧ (w.setCells b o vs).output = w.output := by
  intro vs
  induction vs generalizing o with
  | nil => intro w; exact ⟨rfl, rfl, rfl⟩
  | cons v vs ih => intro w; rw [World.setCells]; exact ih _ _
theorem Keeps.setCells {F : List Nat} {a w : World} (h : Keeps F a w) {b : Nat} (hp : b ∈ F ∨ a.heap.size ≤ b) (o : Nat) (vs : List Value) : Keeps F a (w.setCells b o vs) :=
  ⟨(setCells_rest b o vs w).1.trans h.os, (setCells_rest b o vs w).2.1.trans h.tape, (setCells_rest b o vs w).2.2.trans h.output, by rw [size_setCells]; exact h.size,
    fun k hk hn => (heap_setCells_other b o k (fun e => by subst e; exact hp.elim hn (fun hle => by omega)) vs w).trans (h.block k hk hn)⟩

/-- The block behind a row of stores. -/
theorem heap_setCells_same (b : Nat) (t : TypeId) : ∀ (vs : List Value) (o : Nat) (w : World) (cs : List Value), w.heap[b]? = some (.cells cs.toArray t (0, 0)) → o + vs.length ≤ cs.length →
    (w.setCells b o vs).heap[b]? = some (.cells (cs.take o ++ vs ++ cs.drop (o + vs.length)).toArray t (0, 0)) := by
  intro vs
  induction vs with
  | nil => intro o w cs h _; simpa [World.setCells] using h
  | cons v vs ih =>
    intro o w cs h hl
    simp only [List.length_cons] at hl
    rw [World.setCells]
    have h1 := heap_setCell_same w b o cs.toArray t v h
    rw [List.setIfInBounds_toArray] at h1
    rw [ih (o + 1) _ _ h1 (by simp; omega)]
    congr 3
    have e1 : (cs.set o v).take (o + 1) = cs.take o ++ [v] := by
      rw [List.take_succ_eq_append_getElem (by simp; omega)]
      simp [List.take_set]
      exact List.set_eq_of_length_le (by simp; omega)
    rw [e1, List.drop_set_of_lt (by omega)]
    simp only [List.length_cons, List.append_assoc, List.cons_append, List.nil_append]
    congr 4
    omega

/-! ### bytes -/
/-- A byte as a cell. -/
def B (c : UInt8) : Value := .int .u8 c.toNat
theorem B_one (l : List UInt8) : ∀ v ∈ l.map B, v.oneCell' = true := by
  intro v hv
  obtain ⟨c, _, rfl⟩ := List.mem_map.1 hv
  rfl
theorem B_inj {a b : UInt8} (h : B a = B b) : a = b := by
  simp only [B, Value.int.injEq, true_and] at h
  exact UInt8.toNat_inj.1 (by omega)
theorem map_B_inj {a b : List UInt8} (h : a.map B = b.map B) : a = b := List.map_inj_right (fun _ _ e => B_inj e) |>.1 h

/-- v is a slice of bytes that reads as l. -/
def BytesAt (w : World) (v : Value) (l : List UInt8) : Prop :=
  (l = [] ∧ ∃ a c, v = .slice a 0 c ∧ c ≤ maxLen) ∨ ∃ g o cap, v = .slice (some ⟨g, o, none⟩) l.length cap ∧ l.length ≤ cap ∧ cap ≤ maxLen ∧ g < w.heap.size ∧ w.rangeAt g o (l.map B)
theorem BytesAt_nil (w : World) : BytesAt w (.slice none 0 0) [] := .inl ⟨rfl, none, 0, rfl, by simp [maxLen]⟩
/-- The block that a slice's elements lie in, if it has some. -/
def _root_.Go.Value.elemBlock : Value → Option Nat
  | .slice (some a) (_ + 1) _ => some a.block
  | _ => none

theorem rangeAt_of_heap {w w' : World} {g o : Nat} {cs : List Value} (h : w.rangeAt g o cs) (hb : w'.heap[g]? = w.heap[g]?) : w'.rangeAt g o cs :=
  fun j v hv => by rw [World.cell?_of_block (w := w) (w' := w') (a := ⟨g, o + j, none⟩) hb]; exact h j v hv
theorem there_of_heap {w w' : World} {g o n : Nat} (h : w.there g o n) (hb : w'.heap[g]? = w.heap[g]?) : w'.there g o n :=
  fun j hj => by rw [World.cell?_of_block (w := w) (w' := w') (a := ⟨g, o + j, none⟩) hb, World.frozen?_of_block (w := w) (w' := w') (a := ⟨g, o + j, none⟩) hb]; exact h j hj

theorem BytesAt.of_heap {w w' : World} {v : Value} {l : List UInt8} (h : BytesAt w v l) (hs : w.heap.size ≤ w'.heap.size) (hd : ∀ k, v.elemBlock = some k → k < w.heap.size → w'.heap[k]? = w.heap[k]?) : BytesAt w' v l := by
  rcases h with h | ⟨g, o, cap, rfl, h1, h2, h3, h4⟩
  · exact .inl h
  · match l with
    | [] => exact .inl ⟨rfl, _, _, rfl, h2⟩
    | x :: l => exact .inr ⟨g, o, cap, rfl, h1, h2, Nat.lt_of_lt_of_le h3 hs, rangeAt_of_heap h4 (hd g rfl h3)⟩
theorem BytesAt.keeps {F : List Nat} {w w' : World} {v : Value} {l : List UInt8} (h : BytesAt w v l) (hk : Keeps F w w') (hd : ∀ k, v.elemBlock = some k → k ∉ F) : BytesAt w' v l :=
  h.of_heap hk.size (fun k hk' hlt => hk.block k hlt (hd k hk'))
theorem BytesAt.below {n : Nat} {w w' : World} {v : Value} {l : List UInt8} (h : BytesAt w v l) (hk : Below n w w') (hd : ∀ k, v.elemBlock = some k → k < n) : BytesAt w' v l :=
  h.of_heap hk.size (fun k hk' _ => hk.block k (hd k hk'))

/-! ### cells behind stores -/
theorem cell_set_off {w : World} {b i j : Nat} (v : Value) (h : j ≠ i) : (w.setCell ⟨b, i, none⟩ v).cell? ⟨b, j, none⟩ = w.cell? ⟨b, j, none⟩ :=
  World.cell?_setCell_other w _ _ v (fun e => h (congrArg Addr.off e).symm)
theorem cell_set_far {w : World} {b c i j : Nat} (v : Value) (h : c ≠ b) : (w.setCell ⟨b, i, none⟩ v).cell? ⟨c, j, none⟩ = w.cell? ⟨c, j, none⟩ :=
  World.cell?_setCell_other w _ _ v (fun e => h (congrArg Addr.block e).symm)

theorem heap_new_at {w : World} {o : Obj} {n : Nat} (hn : n = w.heap.size) : (w.alloc o).heap[n]? = some o := by subst hn; exact heap_alloc_new w o
theorem heap_old_at {w : World} {o : Obj} {n : Nat} (hn : n < w.heap.size) : (w.alloc o).heap[n]? = w.heap[n]? := Below.heap_alloc w o n hn

theorem rangeAt_all {w : World} {b : Nat} {cs : List Value} {t : TypeId} {fr : Nat × Nat} (h : w.heap[b]? = some (.cells cs.toArray t fr)) : w.rangeAt b 0 cs := fun j v hv => by
  rw [Nat.zero_add, cell_of_row w b j _ _ _ h]; simpa using hv
theorem rangeAt_part {w : World} {b : Nat} {xs ys zs : List Value} {t : TypeId} {fr : Nat × Nat} (h : w.heap[b]? = some (.cells (xs ++ ys ++ zs).toArray t fr)) : w.rangeAt b xs.length ys := fun j v hv => by
  rw [cell_of_row w b _ _ _ _ h]
  have hj := (List.getElem?_eq_some_iff.1 hv).1
  simp only [List.getElem?_toArray]
  rw [List.getElem?_append_left (by simp; omega), List.getElem?_append_right (by omega)]
  simpa using hv
theorem there_all {w : World} {b : Nat} {cs : List Value} {t : TypeId} (h : w.heap[b]? = some (.cells cs.toArray t (0, 0))) (o n : Nat) (ho : o + n ≤ cs.length) : w.there b o n := fun j hj => by
  refine ⟨?_, frozen_of_row w b _ _ _ h⟩
  rw [cell_of_row w b _ _ _ _ h]
  simp
  omega

/-- A row of one value over and over. -/
theorem madeCells_same (k : Nat) (v : Value) (n : Nat) (hk : 0 < k) : madeCells (Array.replicate k v) n = (List.replicate n v).toArray := by
  apply Array.ext_getElem?
  intro j
  by_cases hj : j < n
  · have hm : j % k < k := Nat.mod_lt _ hk
    simp [madeCells, hj, hm]
  · simp [madeCells, hj]

/-! ### a map from int to int -/
/-- The map m of at most n entries holds under each int k what f says. -/
def IMap (P : Program) (w : World) (ti : TypeId) (b n : Nat) (f : Int → Option Int) : Prop :=
  ∃ D : DataW Unit, w.ownsMap P ti (plainElem P ti) b n D ∧ ∀ k, (Lit.int .i64 k).wf = true → Maps.has D (.int .i64 k) = (f k).isSome ∧ ∀ z, D.atKey (.int .i64 k) z = match f k with | some v => .lit (.int .i64 v) | none => z

section
variable {P : Program} {w w' : World} {ti tm : TypeId} {b n : Nat} {f : Int → Option Int}
theorem IMap.lt (h : IMap P w ti b n f) : b < w.heap.size := by obtain ⟨D, h, _⟩ := h; exact h.lt
theorem IMap.keep (h : IMap P w ti b n f) (hb : w'.heap[b]? = w.heap[b]?) : IMap P w' ti b n f := by
  obtain ⟨D, ⟨es, clock, h1, h2⟩, h3⟩ := h
  exact ⟨D, ⟨es, clock, hb.trans h1, h2⟩, h3⟩
theorem IMap.mono {n' : Nat} (h : IMap P w ti b n f) (hn : n ≤ n') : IMap P w ti b n' f := by
  obtain ⟨D, h, h3⟩ := h
  exact ⟨D, h.mono hn, h3⟩
theorem IMap_empty {es : Array MapEntry} (clock : Nat) (he : es = #[]) (hb : w.heap[b]? = some (.map es clock)) : IMap P w ti b 0 (fun _ => none) := by
  subst he
  refine ⟨.map [], ⟨#[], clock, hb, ⟨by simp, stamped_empty clock, by simp⟩, Nat.le_refl _, rfl⟩, fun k _ => ⟨rfl, fun z => rfl⟩⟩
theorem IMap.look (h : IMap P w ti b n f) (hi : P.underlying ti = some (.int .i64)) (ht : P.underlying tm = some (.map ti ti)) (hz : (zeroValue ti).run P w = .ok (.int .i64 0) w) {k : Int} (hk : (Lit.int .i64 k).wf = true) :
    (Instr.lookup tm (.map (some b)) (.int .i64 k) true).run P w = .ok (.tuple #[.int .i64 ((f k).getD 0), .bool (f k).isSome]) w := by
  obtain ⟨D, h, h3⟩ := h
  obtain ⟨v, ps, hrun, hv⟩ := h.look_ok (int_keyed hi) ht hz (plainElem_int hi (by decide)) (keyOf_int_mk hi hk)
  rw [hrun, (h3 k hk).1]
  obtain ⟨c, rfl, hc, _⟩ := plainElem_int_inv hi hv
  have e := congrArg Prod.fst hc
  simp only [(h3 k hk).2] at e
  cases hf : f k with
  | none => simp [hf] at e; simp [e]
  | some x => simp [hf] at e; simp [e]
theorem IMap.put (h : IMap P w ti b n f) (hi : P.underlying ti = some (.int .i64)) (ht : P.underlying tm = some (.map ti ti)) (hn : n < maxLen) {k v : Int} (hk : (Lit.int .i64 k).wf = true) (hv : (Lit.int .i64 v).wf = true) :
    ∃ w', (Instr.mapUpdate tm (.map (some b)) (.int .i64 k) (.int .i64 v)).run P w = .ok () w' ∧ IMap P w' ti b (n + 1) (fun j => if j = k then some v else f j) ∧ w.grownBy w' (some b) ∧ w'.heap.size = w.heap.size := by
  obtain ⟨D, h, h3⟩ := h
  obtain ⟨w', hrun, hown, hturn⟩ := h.store (int_keyed hi) ht hn (keyOf_int_mk hi hk) (plainElem_int hi hv)
  have hs : w'.heap.size = w.heap.size := by
    obtain ⟨_, _, _, _, _, rfl⟩ := hturn
    simp [setBlock]
  refine ⟨w', hrun, ⟨_, hown, fun j hj => ?_⟩, hturn.grown, hs⟩
  have hM := h.isMap
  by_cases e : j = k
  · subst e
    refine ⟨?_, fun z => ?_⟩
    · simp only [if_true]
      exact Maps.has_put_same hM (by first | exact ⟨_, _, rfl, hk⟩ | simp [WideAt.IsKeyLit]) _
    · simp only [if_true]
      exact Maps.atKey_put_same hM (by first | exact ⟨_, _, rfl, hk⟩ | simp [WideAt.IsKeyLit]) _ _
  · have hne : (Lit.int .i64 j) ≠ .int .i64 k := fun he => e (by simpa using he)
    refine ⟨?_, fun z => ?_⟩
    · rw [Maps.has_put_other hne]; simp only [if_neg e]; exact (h3 j hj).1
    · rw [Maps.atKey_put_other hne]; simp only [if_neg e]; exact (h3 j hj).2 z
theorem IMap.clear {tk te : TypeId} (h : IMap P w ti b n f) (ht : P.underlying tm = some (.map tk te)) :
    ∃ w', (∀ ty, (Builtin.clear_ #[tm] ty #[.map (some b)]).run P w = .ok (.tuple #[]) w') ∧ IMap P w' ti b 0 (fun _ => none) ∧ w.grownBy w' (some b) ∧ w'.heap.size = w.heap.size := by
  obtain ⟨D, ⟨es, clock, h1, _⟩, _⟩ := h
  have hr : ∀ ty, (Builtin.clear_ #[tm] ty #[.map (some b)]).run P w = .ok (.tuple #[]) (setBlock w b (.map #[] clock)) := by
    intro ty
    simp [Builtin.clear_, run_underlying ht, MapKept.run_getObj_map h1, Result.andThen, setObj, Sem.run, h1, setBlock]
  refine ⟨setBlock w b (.map #[] clock), hr, IMap_empty clock rfl (heap_setBlock_same h1 _), ⟨rfl, rfl, rfl, by simp [setBlock], fun i _ hi => heap_setBlock_other h1 _ (fun e => hi (by rw [e]))⟩, by simp [setBlock]⟩
end

end Go.Proofs.Ytbjffjplpnnhoaa
