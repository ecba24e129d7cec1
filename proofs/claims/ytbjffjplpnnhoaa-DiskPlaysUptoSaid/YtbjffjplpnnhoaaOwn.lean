/-
  Bytes of one's own: a slice at the head of a block of its own; what a walk carries along.
-/
import Derived.Test.YtbjffjplpnnhoaaReg
import Derived.Test.YtbjffjplpnnhoaaLive
namespace Go.Proofs.Ytbjffjplpnnhoaa
set_option linter.unusedVariables false
set_option linter.unusedSimpArgs false
open Go.RowKit

theorem lt_of_heap {w : World} {b : Nat} {o : Obj} (h : w.heap[b]? = some o) : b < w.heap.size := lt_of_block h

theorem ownsRow_keep {w w' : World} {base : Nat} {e : TypeId} {size : Nat} {v : Value} {n : Nat} {xs : List Value} (h : w.ownsRow base e size v n xs) (hb : ∀ k, v.ownBlock = some k → w'.heap[k]? = w.heap[k]?) : w'.ownsRow base e size v n xs := by
  obtain ⟨h1, h2⟩ := h
  refine ⟨h1, ?_⟩
  rcases h2 with h2 | ⟨g, cap, cur, rfl, hg, hh, r⟩
  · exact .inl h2
  · exact .inr ⟨g, cap, cur, rfl, hg, (hb g rfl).trans hh, r⟩

theorem info_u8 : (Try.prog.info? 5).map (fun i => (i.zero, i.size, i.bytes)) = some (some (.int .u8 0), 1, 1) := by kernel_rfl

/-- v is a slice of bytes that reads as l, at the head of a block of its own. -/
def OwnB (w : World) (v : Value) (l : List UInt8) : Prop := w.ownsRow 0 5 1 v l.length (l.map B)
/-- 'append([]byte(nil), x...)' of some bytes. -/
theorem wl_append_nil {ops : Array Oper} {rest : List Oper} {o : Oper} {a : Act} {w : World} {Q : Exit → Act → World → Prop} (hg : o.guard = none) (s x : Operand)
    (ho : o.op = .call { callee := .builtin .append, args := #[s, x], argTypes := #[29, 29] }) (hs : a.eval s = .slice none 0 0) {g o' n c : Nat} (hx : a.eval x = .slice (some ⟨g, o', none⟩) n c)
    (l : List UInt8) (hl : l.length = n) (hn : 0 < n) (hr : w.rangeAt g o' (l.map B)) (hb : n ≤ 140737488355328)
    (h : ∀ cap w', OwnB w' (.slice (some ⟨w.heap.size, 0, none⟩) n cap) l → w.grownBy w' none → w.heap.size < w'.heap.size → wpList Try.prog ops Q rest (a.put o.dst (.slice (some ⟨w.heap.size, 0, none⟩) n cap)) w') :
    wpList Try.prog ops Q (o :: rest) a w := by
  obtain ⟨i0, hi0, hz0, hz1, hz2⟩ := info_parts info_u8
  refine wpList_append_lies w hg s x 29 ho 0 5 i0 (.int .u8 0) 1 1 Try.underlying29 hi0 hz0 hz1 hz2 rfl (by omega) (.slice none 0 0) 0 [] hs (World.ownsRow_nil _ _ _ _) ⟨g, o', none⟩ n c (l.map B) hx (by simp [hl])
    (fun j u hu => by rw [Addr.add_mid]; exact hr j u hu) (B_one l) hn (by simp only [maxLen]; omega) (by omega) (by omega) w.heap.size rfl ?_
  intro g' cap w' h1 h2 h3 h4
  have e : g' = w.heap.size := by
    rcases h3 with h3 | h3
    · simp [Value.ownBlock] at h3
    · exact h3
  subst e
  simp only [Nat.zero_add, List.nil_append] at h1 ⊢
  refine h cap w' ?_ h2 h4
  unfold OwnB
  rw [hl]
  exact h1

theorem ownB_bytes {w : World} {v : Value} {l : List UInt8} (h : OwnB w v l) : BytesAt w v l := by
  rcases h.2 with ⟨rfl, h0⟩ | ⟨g, cap, cur, rfl, _, hh, h1, h2, h3, h4⟩
  · exact .inl ⟨List.eq_nil_of_length_eq_zero h0, none, 0, rfl, by simp [maxLen]⟩
  · refine .inr ⟨g, 0, cap, rfl, h1, h2, lt_of_heap hh, fun j u hj => ?_⟩
    rw [Nat.zero_add, cell_of_row w g j _ _ _ hh]
    rw [← h4, List.getElem?_take] at hj
    split at hj
    · simpa using hj
    · cases hj
def bytesThing (v : Value) (l : List UInt8) : Thing := ⟨v.ownBlock.toList, fun w => OwnB w v l, fun _ _ h hk => ownsRow_keep h (fun k hv => hk k (by simp [hv])), fun _ h k hk => (World.ownsRow.lt h k (by simpa using hk)).2⟩

theorem elemBlock_own {v : Value} {k : Nat} (h : v.elemBlock = some k) : v.ownBlock = some k := by
  unfold Value.elemBlock at h
  split at h
  · simpa [Value.ownBlock] using h
  · cases h
/-- What a law's walk carries: what was there is as it was; the things that it has made. -/
structure At (w0 w : World) (L : List Thing) : Prop where
  below : Below w0.heap.size w0 w
  live : Live w w0.heap.size L
namespace At
variable {w0 w w' : World} {L : List Thing} {t t' : Thing}
theorem start (w : World) : At w w [] := ⟨Below.refl _ _, Live.nil _ _⟩
theorem le (h : At w0 w L) : w0.heap.size ≤ w.heap.size := h.below.size
theorem keep (h : At w0 w L) (hk : Keeps [] w w') : At w0 w' L := ⟨h.below.trans (hk.below0 h.le), h.live.keep hk⟩
theorem add (h : At w0 w L) (hk : Keeps [] w w') (hp : t.P w') (hf : From w [] t.F) : At w0 w' (t :: L) := ⟨h.below.trans (hk.below0 h.le), h.live.add hk hp hf h.le⟩
theorem upd (h : At w0 w L) (i : Nat) (hi : L[i]? = some t) (hk : Keeps t.F w w') (hp : t'.P w') (hf : From w t.F t'.F) : At w0 w' (L.set i t') :=
  ⟨h.below.trans (h.live.below hi hk h.le), h.live.upd hi hk hp hf h.le⟩
theorem ge (h : At w0 w L) (i : Nat) (hi : L[i]? = some t) : ∀ k ∈ t.F, w0.heap.size ≤ k := h.live.ge hi
theorem bytes (h : At w0 w L) (i : Nat) {v : Value} {l : List UInt8} (hi : L[i]? = some (bytesThing v l)) : OwnB w v l := h.live.get hi
end At

theorem ownsRow_base {w : World} {base : Nat} {e : TypeId} {size : Nat} {v : Value} {n : Nat} {xs : List Value} (h : w.ownsRow base e size v n xs) : w.ownsRow 0 e size v n xs := by
  obtain ⟨h1, h2⟩ := h
  refine ⟨h1, ?_⟩
  rcases h2 with h2 | ⟨g, cap, cur, hv, hg, r⟩
  · exact .inl h2
  · exact .inr ⟨g, cap, cur, hv, Nat.zero_le _, r⟩
theorem BytesAt.form {w : World} {v : Value} {l : List UInt8} (h : BytesAt w v l) : ∃ a c, v = .slice a l.length c ∧ l.length ≤ c ∧ c ≤ maxLen := by
  rcases h with ⟨rfl, a, c, rfl, hc⟩ | ⟨g, o, cap, rfl, h1, h2, _⟩
  · exact ⟨a, c, rfl, Nat.zero_le _, hc⟩
  · exact ⟨_, _, rfl, h1, h2⟩
theorem BytesAt.at {w : World} {a : Option Addr} {n c : Nat} {l : List UInt8} (h : BytesAt w (.slice a n c) l) (hn : 0 < l.length) : ∃ g o, a = some ⟨g, o, none⟩ ∧ g < w.heap.size ∧ w.rangeAt g o (l.map B) := by
  rcases h with ⟨h0, _⟩ | ⟨g, o, cap, hv, _, _, h3, h4⟩
  · subst h0; simp at hn
  · injection hv with e _ _
    exact ⟨g, o, e, h3, h4⟩
theorem range_byte {w w' : World} {g o k : Nat} {l : List UInt8} (h : w.rangeAt g o (l.map B)) (hb : w'.heap[g]? = w.heap[g]?) {x : UInt8} (hx : l[k]? = some x) : w'.cell? ⟨g, o + k, none⟩ = some (.int .u8 x.toNat) := by
  rw [World.cell?_of_block (w := w) (w' := w') (a := ⟨g, o + k, none⟩) hb]
  exact h k _ (by rw [List.getElem?_map, hx]; rfl)
theorem OwnB.row {w : World} {g n cap : Nat} {l : List UInt8} (h : OwnB w (.slice (some ⟨g, 0, none⟩) n cap) l) :
    ∃ cur, w.heap[g]? = some (.cells cur 5 (0, 0)) ∧ n = l.length ∧ n ≤ cap ∧ cap ≤ maxLen ∧ cur.size = cap ∧ cur.toList.take n = l.map B := by
  rcases h.2 with ⟨h0, _⟩ | ⟨g', cap', cur, hv, _, hh, h1, h2, h3, h4⟩
  · cases h0
  · injection hv with e1 e2 e3
    injection e1 with e1
    injection e1 with e1 _
    subst e1 e2 e3
    exact ⟨cur, hh, rfl, h1, h2, by rw [h3, Nat.mul_one], by rw [← h4, Nat.mul_one]⟩
theorem OwnB.cell {w : World} {g n cap : Nat} {l : List UInt8} (h : OwnB w (.slice (some ⟨g, 0, none⟩) n cap) l) (i : Nat) (hi : i < l.length) : w.cell? ⟨g, i, none⟩ = some (B l[i]) := by
  obtain ⟨cur, hh, hn, _, _, _, ht⟩ := h.row
  rw [cell_of_row w g i _ _ _ hh]
  have : (l.map B)[i]? = some (B l[i]) := by rw [List.getElem?_map, List.getElem?_eq_getElem hi]; rfl
  rw [← ht, List.getElem?_take] at this
  split at this
  · simpa using this
  · cases this
theorem OwnB.free {w : World} {g n cap : Nat} {l : List UInt8} (h : OwnB w (.slice (some ⟨g, 0, none⟩) n cap) l) (i : Nat) : w.frozen? ⟨g, i, none⟩ = false := by
  obtain ⟨cur, hh, _⟩ := h.row
  exact frozen_of_row w g i _ _ hh
theorem OwnB.set {w : World} {g n cap : Nat} {l : List UInt8} (h : OwnB w (.slice (some ⟨g, 0, none⟩) n cap) l) (i : Nat) (hi : i < l.length) (x : UInt8) : OwnB (w.setCell ⟨g, i, none⟩ (B x)) (.slice (some ⟨g, 0, none⟩) n cap) (l.set i x) := by
  obtain ⟨cur, hh, hn, h1, h2, h3, ht⟩ := h.row
  refine ⟨by simp, .inr ⟨g, cap, cur.setIfInBounds i (B x), by rw [List.length_set, hn], Nat.zero_le _, heap_setCell_same w g i _ _ _ hh, by rw [List.length_set]; omega, h2, by rw [Array.size_setIfInBounds, h3, Nat.mul_one], ?_⟩⟩
  rw [Nat.mul_one, List.length_set, Array.toList_setIfInBounds, List.map_set, ← ht, ← hn, List.take_set]

theorem OwnB.part {w : World} {g n cap : Nat} {l : List UInt8} (h : OwnB w (.slice (some ⟨g, 0, none⟩) n cap) l) (k : Nat) (hk : k * 256 + 256 ≤ l.length) (c : Nat) (hc : 256 ≤ c) (hm : c ≤ maxLen) :
    BytesAt w (.slice (some ⟨g, k * 256, none⟩) 256 c) ((l.drop (k * 256)).take 256) := by
  have hl : ((l.drop (k * 256)).take 256).length = 256 := by rw [List.length_take, List.length_drop]; omega
  obtain ⟨cur, hh, _⟩ := h.row
  refine .inr ⟨g, k * 256, c, by rw [hl], by omega, hm, lt_of_heap hh, fun j u hj => ?_⟩
  have hjl : j < 256 := by
    have := (List.getElem?_eq_some_iff.1 hj).1
    rw [List.length_map] at this
    omega
  have hx : k * 256 + j < l.length := by omega
  rw [List.getElem?_map, List.getElem?_take_of_lt hjl, List.getElem?_drop, List.getElem?_eq_getElem hx] at hj
  rw [h.cell _ hx]
  exact hj
end Go.Proofs.Ytbjffjplpnnhoaa
