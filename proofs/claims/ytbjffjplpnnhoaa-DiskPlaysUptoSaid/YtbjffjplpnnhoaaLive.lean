/-
  Things that lie in memory, each over blocks of its own: what a call on one of them leaves of the others.
-/
import Derived.Test.YtbjffjplpnnhoaaBase
namespace Go.Proofs.Ytbjffjplpnnhoaa
set_option linter.unusedVariables false
set_option linter.unusedSimpArgs false
open Go.RowKit

/-- The new footprint is of the old one's blocks and of new blocks. -/
def From (w : World) (F F' : List Nat) : Prop := ∀ k ∈ F', k ∈ F ∨ w.heap.size ≤ k
theorem From.refl (w : World) (F : List Nat) : From w F F := fun _ h => .inl h
theorem From.trans {w w' : World} {F F' F'' : List Nat} (h : From w F F') (h' : From w' F' F'') (hs : w.heap.size ≤ w'.heap.size) : From w F F'' := fun k hk =>
  (h' k hk).elim (h k) (fun hle => .inr (by omega))

/-- Something that lies over the blocks F. -/
structure Thing where
  F : List Nat
  P : World → Prop
  stays : ∀ w w' : World, P w → (∀ k ∈ F, w'.heap[k]? = w.heap[k]?) → P w'
  lt : ∀ w, P w → ∀ k ∈ F, k < w.heap.size

/-- All of these lie in w, over blocks from base on, and no two share one. -/
structure Live (w : World) (base : Nat) (L : List Thing) : Prop where
  all : ∀ t ∈ L, t.P w ∧ ∀ k ∈ t.F, base ≤ k
  apart : L.Pairwise (fun s t => ∀ k ∈ s.F, k ∉ t.F)

namespace Live
variable {w w' : World} {base : Nat} {L : List Thing} {t t' : Thing}
theorem nil (w : World) (base : Nat) : Live w base [] := ⟨by simp, .nil⟩
theorem get (h : Live w base L) {i : Nat} (hi : L[i]? = some t) : t.P w := (h.all t (List.mem_of_getElem? hi)).1
theorem ge (h : Live w base L) {i : Nat} (hi : L[i]? = some t) : ∀ k ∈ t.F, base ≤ k := (h.all t (List.mem_of_getElem? hi)).2
theorem keep (h : Live w base L) (hk : Keeps [] w w') : Live w' base L :=
  ⟨fun t ht => ⟨t.stays w w' (h.all t ht).1 (fun k hk' => hk.block k (t.lt w (h.all t ht).1 k hk') (by simp)), (h.all t ht).2⟩, h.apart⟩
theorem add (h : Live w base L) (hk : Keeps [] w w') (hp : t.P w') (hf : From w [] t.F) (hb : base ≤ w.heap.size) : Live w' base (t :: L) := by
  have h' := h.keep hk
  have hn : ∀ k ∈ t.F, w.heap.size ≤ k := fun k hk' => (hf k hk').resolve_left (by simp)
  refine ⟨fun s hs => ?_, List.Pairwise.cons (fun s hs k hk' hks => ?_) h.apart⟩
  · rcases List.mem_cons.1 hs with rfl | hs
    · exact ⟨hp, fun k hk' => Nat.le_trans hb (hn k hk')⟩
    · exact h'.all s hs
  · have h1 := s.lt w (h.all s hs).1 k hks
    have h2 := hn k hk'
    omega
theorem apart_of (h : Live w base L) {i j : Nat} (hij : i ≠ j) {s : Thing} (hi : L[i]? = some t) (hj : L[j]? = some s) : ∀ k ∈ t.F, k ∉ s.F := by
  obtain ⟨hi', rfl⟩ := List.getElem?_eq_some_iff.1 hi
  obtain ⟨hj', rfl⟩ := List.getElem?_eq_some_iff.1 hj
  rcases Nat.lt_or_ge i j with hlt | hge
  · exact List.pairwise_iff_getElem.1 h.apart i j hi' hj' hlt
  · have := List.pairwise_iff_getElem.1 h.apart j i hj' hi' (by omega)
    exact fun k hk hk' => this k hk' hk
theorem upd (h : Live w base L) {i : Nat} (hi : L[i]? = some t) (hk : Keeps t.F w w') (hp : t'.P w') (hf : From w t.F t'.F) (hb : base ≤ w.heap.size) : Live w' base (L.set i t') := by
  obtain ⟨hlt, hit⟩ := List.getElem?_eq_some_iff.1 hi
  have hge : ∀ k ∈ t'.F, base ≤ k := fun k hk' => (hf k hk').elim (h.ge hi k) (Nat.le_trans hb)
  have far : ∀ j s, j ≠ i → L[j]? = some s → (∀ k ∈ s.F, k ∉ t'.F) := fun j s hj hs k hks hkt => by
    rcases hf k hkt with hkt | hkt
    · exact h.apart_of (Ne.symm hj) hi hs k hkt hks
    · have := s.lt w (h.get hs) k hks
      omega
  refine ⟨fun s hs => ?_, ?_⟩
  · obtain ⟨j, hj, rfl⟩ := List.getElem_of_mem hs
    rw [List.length_set] at hj
    by_cases e : j = i
    · subst e
      rw [List.getElem_set_self]
      exact ⟨hp, hge⟩
    · rw [List.getElem_set_ne (Ne.symm e)]
      have hs' : L[j]? = some L[j] := List.getElem?_eq_getElem hj
      refine ⟨L[j].stays w w' (h.get hs') (fun k hk' => hk.block k (L[j].lt w (h.get hs') k hk') ?_), h.ge hs'⟩
      exact h.apart_of e hs' hi k hk'
  · rw [List.pairwise_iff_getElem]
    intro a b ha hb' hab
    rw [List.length_set] at ha hb'
    have ha' : L[a]? = some L[a] := List.getElem?_eq_getElem ha
    have hb'' : L[b]? = some L[b] := List.getElem?_eq_getElem hb'
    by_cases ea : a = i
    · subst ea
      rw [List.getElem_set_self, List.getElem_set_ne (by omega)]
      exact fun k hk' hkb => far b _ (by omega) hb'' k hkb hk'
    · by_cases eb : b = i
      · subst eb
        rw [List.getElem_set_self, List.getElem_set_ne (by omega)]
        exact far a _ ea ha'
      · rw [List.getElem_set_ne (by omega), List.getElem_set_ne (by omega)]
        exact h.apart_of (by omega) ha' hb''
theorem below (h : Live w base L) {i : Nat} (hi : L[i]? = some t) (hk : Keeps t.F w w') (hb : base ≤ w.heap.size) : Below base w w' := hk.below hb (h.ge hi)
end Live
theorem Keeps.below0 {w w' : World} {base : Nat} (hk : Keeps [] w w') (hb : base ≤ w.heap.size) : Below base w w' := hk.below hb (by simp)
end Go.Proofs.Ytbjffjplpnnhoaa
