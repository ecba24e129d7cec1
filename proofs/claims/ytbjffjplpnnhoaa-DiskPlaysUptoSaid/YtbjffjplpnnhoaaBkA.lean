/-
  The Book of layer 4's law: marks; a list at the head of a block of its own that is made longer; rows with an offset.
-/
import Derived.Test.YtbjffjplpnnhoaaRfO
import Derived.ArgAppend
import Derived.Great.BuildSlice
namespace Go.Proofs.Ytbjffjplpnnhoaa
set_option linter.unusedVariables false
set_option linter.unusedSimpArgs false
open Go.RowKit

/-- The byte at a place of the n-th mark. -/
def mkAt (n : Int) (j : Nat) : UInt8 := UInt8.ofNat (wrap64 (n + 1) / 2 ^ (8 * (j % 3)) % 256).toNat
def marks (n : Int) (m : Nat) : List UInt8 := (List.range m).map (mkAt n)
theorem marks_length (n : Int) (m : Nat) : (marks n m).length = m := by simp [marks]
theorem marks_succ (n : Int) (m : Nat) : marks n (m + 1) = marks n m ++ [mkAt n m] := by simp [marks, List.range_succ]
theorem marks_get (n : Int) {m j : Nat} (h : j < m) : (marks n m)[j]? = some (mkAt n j) := by simp [marks, h]
theorem mkAt_int (n : Int) (j q : Nat) (hq : q = j % 3) : ((mkAt n j).toNat : Int) = wrap64 (n + 1) / 2 ^ (8 * q) % 256 := by
  subst hq
  unfold mkAt
  have h0 : 0 ≤ wrap64 (n + 1) / 2 ^ (8 * (j % 3)) % 256 := Int.emod_nonneg _ (by omega)
  have h1 : wrap64 (n + 1) / 2 ^ (8 * (j % 3)) % 256 < 256 := Int.emod_lt_of_pos _ (by omega)
  rw [UInt8.toNat_ofNat']
  omega
theorem lMark_any {w : World} (n : Int) (j : Nat) (hj : j < 4294967296) :
    Calls Try.prog 54 #[.int .i64 n, .int .i64 j] w fun e w' => e = .returned (.int .u8 (mkAt n j).toNat) ∧ w = w' := by
  obtain ⟨q, hq⟩ : ∃ q, q = j % 3 := ⟨_, rfl⟩
  have h3 : q < 3 := by omega
  have d1 : (j : Int) % 3 = (q : Int) := by omega
  have d2 : (j : Int).tmod 3 = (q : Int) := by rw [Int.tmod_eq_emod_of_nonneg (by omega)]; omega
  have d3 : IntKind.i64.wrap (8 * (q : Int)) = 8 * (q : Int) := IntWalk.i64_in _ (by omega)
  have d4 : IntKind.u64.wrap (8 * (q : Int)) = 8 * (q : Int) := by rw [IntKind.wrap_u64]; omega
  have HM := Lib.hid (mkAt_int n j q hq)
  clear hq
  go_enter Try.func54, Try.ntmps54
  go_wp2_with fail
  go_ret
  refine ⟨?_, rfl⟩
  rw [HM.out]
  rfl

/-- A longer slice of a block, made shorter. -/
theorem OwnB.headPart {w : World} {g n cap : Nat} {l : List UInt8} (h : OwnB w (.slice (some ⟨g, 0, none⟩) n cap) l) {k : Nat} (hk : k ≤ n) : OwnB w (.slice (some ⟨g, 0, none⟩) k cap) (l.take k) := by
  obtain ⟨cur, hh, hn, h1, h2, h3, h4⟩ := h.row
  have hl : (l.take k).length = k := by rw [List.length_take]; omega
  refine ⟨by simp, .inr ⟨g, cap, cur, by rw [hl], Nat.zero_le _, hh, by omega, h2, by omega, ?_⟩⟩
  rw [Nat.mul_one, hl, List.map_take, ← h4, List.take_take, Nat.min_eq_left hk]
theorem marks_take (n : Int) {k m : Nat} (h : k ≤ m) : (marks n m).take k = marks n k := by
  unfold marks
  rw [← List.map_take, List.take_range, Nat.min_eq_left h]

/-- append to a row of a block, from a place of it on. -/
theorem append_row (t ty e : TypeId) (i : TypeInfo) (z : Value) (size bytes : Nat) (ht : Try.prog.underlying t = some (.slice e)) (hi : Try.prog.info? e = some i) (hz : i.zero = some z)
    (hsize : i.size = size) (hby : i.bytes = bytes) (hzs : z.cells.size = size) (hsz : 0 < size) {w : World} {g o n cap : Nat} {cur : Array Value} {xs news : List Value} {m : Nat}
    (hh : w.heap[g]? = some (.cells cur e (0, 0))) (h1 : n ≤ cap) (h2 : cap ≤ maxLen) (h3 : o + cap * size ≤ cur.size) (h4 : (cur.toList.drop o).take (n * size) = xs) (hx : xs.length = n * size)
    (hl : news.length = m * size) {B : Nat} {c : Nat} (hnews : ∀ j u, news[j]? = some u → w.cell? ((⟨B, 0, none⟩ : Addr).add j) = some u) (ho : ∀ u ∈ news, u.oneCell' = true) (h63 : n + m ≤ maxLen) (hb : (n + m) * bytes ≤ 140737488355328) :
    (n + m ≤ cap ∧ (Builtin.append_ #[t, t] ty #[.slice (some ⟨g, o, none⟩) n cap, .slice (some ⟨B, 0, none⟩) m c]).run Try.prog w = .ok (.slice (some ⟨g, o, none⟩) (n + m) cap) (w.setCells g (o + n * size) news)) ∨
    (∃ v' w', (Builtin.append_ #[t, t] ty #[.slice (some ⟨g, o, none⟩) n cap, .slice (some ⟨B, 0, none⟩) m c]).run Try.prog w = .ok v' w' ∧ w'.ownsRow w.heap.size e size v' (n + m) (xs ++ news) ∧ w.grownBy w' none) := by
  rcases Nat.lt_or_ge cap (n + m) with hc | hc
  · right
    refine run_append_arg_grows w t ty e i z size bytes ht hi hz hsize hby hzs hsz ⟨g, o, none⟩ n cap xs hx (fun j u hj => ?_) ⟨B, 0, none⟩ m c news hl hnews hc h63 hb
    rw [Addr.add_mid, cell_of_row w g _ _ _ _ hh]
    rw [← h4, List.getElem?_take] at hj
    split at hj
    · rw [List.getElem?_drop] at hj
      simpa using hj
    · cases hj
  · left
    refine ⟨hc, ?_⟩
    have hin : ∀ j, j < news.length → o + n * size + j < cur.size := fun j hj => by
      have : (n + m) * size ≤ cap * size := Nat.mul_le_mul_right _ hc
      rw [Nat.add_mul] at this
      omega
    have := run_append_room_cells (P := Try.prog) w t ty e i ht hi g o n cap ⟨B, 0, none⟩ m c news (by rw [hsize]; exact hl) hnews ho hc (fun j hj => by rw [hsize, cell_of_row w g _ _ _ _ hh]; simp [hin j hj]) (fun j hj => by rw [hsize]; exact frozen_of_row w g _ _ _ hh)
    rw [hsize] at this
    exact this
/-- Bytes of a mark pushed behind a mark's bytes: whatever else holds the mark goes on to hold it. -/
theorem push_marks {w : World} {n : Int} {m : Nat} {v : Value} (h : OwnB w v (marks n m)) {k : Nat} (hk : 0 < k) (hm : m + k ≤ 1099511627776) {B' c : Nat} (hB : w.heap[B']? = some (.cells (((List.range k).map fun i => mkAt n (m + i)).map B).toArray 5 (0, 0))) (ty : TypeId) :
    ∃ g cap w', (Builtin.append_ #[29, 29] ty #[v, .slice (some ⟨B', 0, none⟩) k c]).run Try.prog w = .ok (.slice (some ⟨g, 0, none⟩) (m + k) cap) w' ∧ OwnB w' (.slice (some ⟨g, 0, none⟩) (m + k) cap) (marks n (m + k)) ∧ Keeps v.ownBlock.toList w w' ∧
      (v.ownBlock = some g ∨ w.heap.size ≤ g) ∧ ∀ u j, OwnB w u (marks n j) → OwnB w' u (marks n j) := by
  obtain ⟨i0, hi0, hz0, hz1, hz2⟩ := info_parts info_u8
  obtain ⟨ns, hns⟩ : ∃ ns, ns = (List.range k).map fun i => mkAt n (m + i) := ⟨_, rfl⟩
  rw [← hns] at hB
  have hnl : ns.length = k := by rw [hns]; simp
  have hmk : marks n m ++ ns = marks n (m + k) := by
    rw [hns]
    unfold marks
    rw [List.range_add, List.map_append, List.map_map]
    rfl
  have hnews : ∀ j u, (ns.map B)[j]? = some u → w.cell? ((⟨B', 0, none⟩ : Addr).add j) = some u := World.news_of_block (cs := (ns.map B).toArray) hB
  have hml := marks_length n m
  rcases h.2 with ⟨rfl, h0⟩ | ⟨g, cap, cur, rfl, _, hh, h1, h2, h3, h4⟩
  · rw [hml] at h0
    subst h0
    obtain ⟨g, cap, w', hr, ho, hg, hat, _⟩ := run_append_lies (P := Try.prog) w 29 ty w.heap.size 5 i0 (.int .u8 0) 1 1 Try.underlying29 hi0 hz0 hz1 hz2 rfl (by omega) (.slice none 0 0) 0 [] (World.ownsRow_nil _ _ _ _) ⟨B', 0, none⟩ k c (ns.map B) (by simp [hnl]) hnews (B_one ns) hk (by simp only [maxLen]; omega) (by omega) (Nat.le_refl _) w.heap.size rfl
    refine ⟨g, cap, w', hr, ?_, (Keeps.refl _ _).grown hg (by simp [Value.ownBlock]), .inr ?_, fun u j hu => ownsRow_keep hu (fun b hb => hg.block b (World.ownsRow.lt hu b hb).2 (by simp [Value.ownBlock]))⟩
    · unfold OwnB
      rw [marks_length, ← hmk]
      have := ownsRow_base ho
      simpa [marks] using this
    · rcases hat with hat | hat
      · simp [Value.ownBlock] at hat
      · omega
  · rw [hml] at h1 h4 ⊢
    rcases append_row 29 ty 5 i0 (.int .u8 0) 1 1 Try.underlying29 hi0 hz0 hz1 hz2 rfl (by omega) (o := 0) (m := k) (c := c) hh h1 h2 (by omega) (by simpa using h4) (by simp [hml]) (by simp [hnl]) hnews (B_one ns) (by simp only [maxLen]; omega) (by omega) with ⟨hc, hr⟩ | ⟨v', w', hr, ho, hg⟩
    · rw [Nat.zero_add, Nat.mul_one] at hr
      have hcl : cur.toList.length = cap := by simpa using h3
      have hset := heap_setCells_same g 5 (ns.map B) m w cur.toList (by simpa using hh) (by rw [List.length_map, hnl, hcl]; exact hc)
      have hlen : (List.map B ns).length = k := by rw [List.length_map, hnl]
      obtain ⟨cur2, hc2⟩ : ∃ c2, c2 = cur.toList.take m ++ List.map B ns ++ cur.toList.drop (m + (List.map B ns).length) := ⟨_, rfl⟩
      rw [← hc2] at hset
      have hc2l : cur2.length = cap := by
        rw [hc2]
        simp only [List.length_append, List.length_take, List.length_drop, hlen, hcl]
        omega
      rw [Nat.mul_one] at h4
      have hget : ∀ x, x < m + k → cur2[x]? = some (B (mkAt n x)) := fun x hx => by
        rw [hc2, h4]
        rw [List.getElem?_append_left (by rw [List.length_append, List.length_map, hml, hlen]; exact hx), ← List.map_append, hmk, List.getElem?_map, marks_get n hx]
        rfl
      refine ⟨g, cap, _, hr, ?_, (Keeps.refl _ _).setCells (.inl (by simp [Value.ownBlock])) _ _, .inl rfl, fun u j hu => ?_⟩
      · refine ⟨by simp, .inr ⟨g, cap, cur2.toArray, by rw [marks_length], Nat.zero_le _, hset, by rw [marks_length]; exact hc, h2, by simp [hc2l], ?_⟩⟩
        rw [Nat.mul_one, marks_length]
        apply List.ext_getElem?
        intro x
        rw [List.getElem?_take]
        by_cases hx : x < m + k
        · rw [if_pos hx, List.getElem?_map, marks_get n hx]
          exact hget x hx
        · rw [if_neg hx, List.getElem?_eq_none (by rw [List.length_map, marks_length]; omega)]
      · by_cases hb : u.ownBlock = some g
        · rcases hu.2 with ⟨rfl, _⟩ | ⟨g', cap', cur', rfl, _, hh', k1, k2, k3, k4⟩
          · simp [Value.ownBlock] at hb
          · have e : g' = g := by simpa [Value.ownBlock] using hb
            subst e
            rw [hh] at hh'
            injection hh' with hh'
            injection hh' with hh'
            subst hh'
            rw [marks_length] at k1 k4
            refine ⟨by simp, .inr ⟨g', cap', cur2.toArray, rfl, Nat.zero_le _, hset, by rw [marks_length]; exact k1, k2, by simp [hc2l]; omega, ?_⟩⟩
            rw [Nat.mul_one, marks_length]
            rw [Nat.mul_one] at k4
            apply List.ext_getElem?
            intro x
            by_cases hx : x < m + k
            · have h5 := congrArg (fun l => l[x]?) k4
              simp only [List.getElem?_take] at h5 ⊢
              by_cases hxj : x < j
              · rw [if_pos hxj, List.getElem?_map, marks_get n hxj]
                exact hget x hx
              · rw [if_neg hxj] at h5 ⊢
                exact h5
            · have h5 := congrArg (fun l => l[x]?) k4
              simp only [List.getElem?_take] at h5 ⊢
              have h6 : cur2[x]? = cur.toList[x]? := by
                have h7 : (cur.toList.take m ++ List.map B ns).length = m + k := by rw [List.length_append, hlen, List.length_take]; omega
                rw [hc2, List.getElem?_append_right (by omega), List.getElem?_drop, h7, hlen, show m + k + (x - (m + k)) = x from by omega]
              show (if x < j then cur2[x]? else none) = _
              rw [h6]
              exact h5
        · exact ownsRow_keep hu (fun b hb' => heap_setCells_other g m b (fun e => hb (by rw [← e]; exact hb')) _ _)
    · obtain ⟨g2, cap2, rfl, hge, _⟩ := ho.form (by omega)
      refine ⟨g2, cap2, w', hr, ?_, (Keeps.refl _ _).grown hg (by simp), .inr hge, fun u j hu => ownsRow_keep hu (fun b hb => hg.block b (World.ownsRow.lt hu b hb).2 (by simp))⟩
      unfold OwnB
      rw [marks_length, ← hmk, List.map_append]
      exact ownsRow_base ho
end Go.Proofs.Ytbjffjplpnnhoaa

/-
  The Book of layer 4's law: rows that begin anywhere in their block.
-/
namespace Go.Proofs.Ytbjffjplpnnhoaa
set_option linter.unusedVariables false
set_option linter.unusedSimpArgs false
open Go.RowKit

/-- v is a slice whose room lies in a block of its own, from any place of it on. -/
def QOwn (w : World) (t : TypeId) (size : Nat) (v : Value) (n : Nat) (xs : List Value) : Prop :=
  xs.length = n * size ∧ ((v = .slice none 0 0 ∧ n = 0) ∨ ∃ g o cap cur, v = .slice (some ⟨g, o, none⟩) n cap ∧ w.heap[g]? = some (.cells cur t (0, 0)) ∧ n ≤ cap ∧ cap ≤ maxLen ∧ o + cap * size ≤ cur.size ∧ (cur.toList.drop o).take (n * size) = xs)
section
variable {w w' : World} {t : TypeId} {size : Nat} {v : Value} {n : Nat} {xs : List Value}
theorem QOwn.nil (w : World) (t : TypeId) (size : Nat) : QOwn w t size (.slice none 0 0) 0 [] := ⟨by simp, .inl ⟨rfl, rfl⟩⟩
theorem QOwn.keep (h : QOwn w t size v n xs) (hb : ∀ k, v.ownBlock = some k → w'.heap[k]? = w.heap[k]?) : QOwn w' t size v n xs := by
  obtain ⟨h1, h2⟩ := h
  refine ⟨h1, ?_⟩
  rcases h2 with h2 | ⟨g, o, cap, cur, rfl, hh, r⟩
  · exact .inl h2
  · exact .inr ⟨g, o, cap, cur, rfl, (hb g rfl).trans hh, r⟩
theorem QOwn.lt (h : QOwn w t size v n xs) : ∀ k, v.ownBlock = some k → k < w.heap.size := by
  intro k hk
  rcases h.2 with ⟨rfl, _⟩ | ⟨g, o, cap, cur, rfl, hh, r⟩
  · simp [Value.ownBlock] at hk
  · have e : g = k := by simpa [Value.ownBlock] using hk
    subst e
    exact lt_of_heap hh
theorem QOwn.form (h : QOwn w t size v n xs) : ∃ a c, v = .slice a n c ∧ n ≤ c ∧ c ≤ 9223372036854775807 := by
  rcases h.2 with ⟨rfl, rfl⟩ | ⟨g, o, cap, cur, rfl, hh, r1, r2, _⟩
  · exact ⟨none, 0, rfl, Nat.le_refl _, by omega⟩
  · exact ⟨_, _, rfl, r1, by simp only [maxLen] at r2; omega⟩
theorem QOwn.at (h : QOwn w t size v n xs) (hn : 0 < n) : ∃ g o cap, v = .slice (some ⟨g, o, none⟩) n cap ∧ g < w.heap.size ∧ w.rangeAt g o xs := by
  rcases h.2 with ⟨rfl, h0⟩ | ⟨g, o, cap, cur, rfl, hh, r1, r2, r3, r4⟩
  · omega
  · refine ⟨g, o, cap, rfl, lt_of_heap hh, fun j u hj => ?_⟩
    rw [cell_of_row w g _ _ _ _ hh]
    rw [← r4, List.getElem?_take] at hj
    split at hj
    · rw [List.getElem?_drop] at hj
      simpa using hj
    · cases hj
theorem QOwn.append {ts ty : TypeId} {i : TypeInfo} {z : Value} {bytes : Nat} (h : QOwn w t size v n xs) (ht : Try.prog.underlying ts = some (.slice t)) (hi : Try.prog.info? t = some i) (hz : i.zero = some z)
    (hsize : i.size = size) (hby : i.bytes = bytes) (hzs : z.cells.size = size) (hsz : 0 < size) {news : List Value} (hl : news.length = size) {B c : Nat} {fr : Nat × Nat} (hB : w.heap[B]? = some (.cells news.toArray t fr)) (ho : ∀ u ∈ news, u.oneCell' = true) (hn : n ≤ 4294967296) (hb : (n + 1) * bytes ≤ 140737488355328) :
    ∃ g o cap w', (Builtin.append_ #[ts, ts] ty #[v, .slice (some ⟨B, 0, none⟩) 1 c]).run Try.prog w = .ok (.slice (some ⟨g, o, none⟩) (n + 1) cap) w' ∧ QOwn w' t size (.slice (some ⟨g, o, none⟩) (n + 1) cap) (n + 1) (xs ++ news) ∧ Keeps v.ownBlock.toList w w' ∧ (v.ownBlock = some g ∨ w.heap.size ≤ g) := by
  have hnews : ∀ j u, news[j]? = some u → w.cell? ((⟨B, 0, none⟩ : Addr).add j) = some u := World.news_of_block (cs := news.toArray) hB
  obtain ⟨hx, h2⟩ := h
  rcases h2 with ⟨rfl, rfl⟩ | ⟨g, o, cap, cur, rfl, hh, r1, r2, r3, r4⟩
  · have hx0 : xs = [] := List.eq_nil_of_length_eq_zero (by omega)
    subst hx0
    obtain ⟨g, cap, w', hr, ho', hg, hat, _⟩ := run_append_lies (P := Try.prog) w ts ty w.heap.size t i z size bytes ht hi hz hsize hby hzs hsz (.slice none 0 0) 0 [] (World.ownsRow_nil _ _ _ _) ⟨B, 0, none⟩ 1 c news (by omega) hnews ho (by omega) (by simp only [maxLen]; omega) (by omega) (Nat.le_refl _) w.heap.size rfl
    refine ⟨g, 0, cap, w', hr, ?_, (Keeps.refl _ _).grown hg (by simp [Value.ownBlock]), .inr ?_⟩
    · obtain ⟨k1, k2⟩ := ho'
      refine ⟨k1, ?_⟩
      rcases k2 with ⟨k2, _⟩ | ⟨g', cap', cur, hv, _, hh, q1, q2, q3, q4⟩
      · cases k2
      · exact .inr ⟨g', 0, cap', cur, hv, hh, q1, q2, by omega, by simpa using q4⟩
    · rcases hat with hat | hat
      · simp [Value.ownBlock] at hat
      · omega
  · rcases append_row ts ty t i z size bytes ht hi hz hsize hby hzs hsz (m := 1) (c := c) hh r1 r2 r3 r4 hx (by omega) hnews ho (by simp only [maxLen]; omega) hb with ⟨hc, hr⟩ | ⟨v', w', hr, ho', hg⟩
    · have hin : o + n * size + size ≤ cur.size := by
        have : (n + 1) * size ≤ cap * size := Nat.mul_le_mul_right _ hc
        rw [Nat.add_mul] at this
        omega
      have hcl : cur.toList.length = cur.size := by simp
      have hset := heap_setCells_same g t news (o + n * size) w cur.toList (by simpa using hh) (by omega)
      refine ⟨g, o, cap, _, hr, ⟨by rw [List.length_append, hx, hl, Nat.add_mul]; omega, .inr ⟨g, o, cap, _, rfl, hset, hc, r2, ?_, ?_⟩⟩, (Keeps.refl _ _).setCells (.inl (by simp [Value.ownBlock])) _ _, .inl rfl⟩
      · simp only [List.size_toArray, List.length_append, List.length_take, List.length_drop]
        omega
      · have e1 : (cur.toList.take (o + n * size)).drop o = xs := by
          rw [List.drop_take, show o + n * size - o = n * size from by omega, r4]
        have e2 : (cur.toList.take (o + n * size)).length = o + n * size := by rw [List.length_take]; omega
        simp only
        rw [List.append_assoc, List.drop_append, e1, e2, show o - (o + n * size) = 0 from by omega, List.drop_zero, List.take_append, List.take_of_length_le (by rw [hx]; exact Nat.mul_le_mul_right _ (by omega)), hx, Nat.add_mul, show n * size + 1 * size - n * size = size from by omega, ← hl, List.take_left]
    · obtain ⟨g2, cap2, rfl, hge, _⟩ := ho'.form (by omega)
      refine ⟨g2, 0, cap2, w', hr, ?_, (Keeps.refl _ _).grown hg (by simp), .inr hge⟩
      obtain ⟨k1, k2⟩ := ho'
      refine ⟨k1, ?_⟩
      rcases k2 with ⟨k2, _⟩ | ⟨g', cap', cur, hv, _, hh, q1, q2, q3, q4⟩
      · cases k2
      · exact .inr ⟨g', 0, cap', cur, hv, hh, q1, q2, by omega, by simpa using q4⟩
/-- All but the first. -/
theorem QOwn.tail {ts : TypeId} {a : Option Addr} {c : Nat} {x : List Value} (h : QOwn w t size (.slice a (n + 1) c) (n + 1) (x ++ xs)) (hx : x.length = size) (ht : Try.prog.underlying ts = some (.slice t)) (hz : ∀ w, (Go.sizeOf t).run Try.prog w = .ok size w) :
    ∃ a' c', (Instr.sliceAt ts (.slice a (n + 1) c) (some (.int .i64 1)) none none).run Try.prog w = .ok (.slice a' n c') w ∧ QOwn w t size (.slice a' n c') n xs ∧ (Value.slice a' n c').ownBlock = (Value.slice a (n + 1) c).ownBlock := by
  have ht' : Try.prog.underlying ts = some (.slice (Try.prog.elem ts)) := by simp [Program.elem, ht]
  have he : Try.prog.elem ts = t := by simp [Program.elem, ht]
  have hr := run_slice_l (P := Try.prog) (w := w) ts a (n + 1) c ht' .i64 1 (by omega) (by omega)
  rw [he, hz, ← run_sliceAt_slice w ts _ _ _ _ ht'] at hr
  simp only [Result.andThen] at hr
  obtain ⟨hl, h2⟩ := h
  rcases h2 with ⟨_, h0⟩ | ⟨g, o, cap, cur, hv, hh, r1, r2, r3, r4⟩
  · omega
  · injection hv with e1 _ e3
    subst e1 e3
    rw [List.length_append, hx, Nat.add_mul] at hl
    have hxl : xs.length = n * size := by omega
    have key : (cur.toList.drop (o + size)).take (n * size) = xs := by
      have e1 : ((cur.toList.drop o).take ((n + 1) * size)).drop size = xs := by rw [r4, ← hx, List.drop_left]
      rw [List.drop_take, List.drop_drop] at e1
      rw [show (n + 1) * size - size = n * size from by rw [Nat.add_mul]; omega] at e1
      exact e1
    have hsl : ∀ m, sliced (some ⟨g, o, none⟩) 1 (n + 1) m size = .slice (if m = 1 then some ⟨g, o, none⟩ else some ⟨g, o + size, none⟩) n (m - 1) := by
      intro m
      by_cases hm : m = 1
      · simp [sliced, hm]
      · simp [sliced, hm, Addr.add_mid]
    by_cases hc : c = 1
    · subst hc
      have hn0 : n = 0 := by omega
      subst hn0
      have hx0 : xs = [] := List.eq_nil_of_length_eq_zero (by omega)
      refine ⟨some ⟨g, o, none⟩, 0, ?_, ⟨by simp [hx0], .inr ⟨g, o, 0, cur, rfl, hh, Nat.le_refl _, by simp [maxLen], by omega, by simp [hx0]⟩⟩, rfl⟩
      rw [hr]
      exact congrArg (Result.ok · w) (hsl 1)
    · refine ⟨some ⟨g, o + size, none⟩, c - 1, ?_, ⟨hxl, .inr ⟨g, o + size, c - 1, cur, rfl, hh, by omega, by omega, ?_, key⟩⟩, rfl⟩
      · rw [hr]
        have := hsl c
        rw [if_neg hc] at this
        exact congrArg (Result.ok · w) this
      · have : c * size = (c - 1) * size + size := by
          obtain ⟨c', rfl⟩ : ∃ c', c = c' + 1 := ⟨c - 1, by omega⟩
          rw [Nat.add_mul]; simp
        omega
end
end Go.Proofs.Ytbjffjplpnnhoaa

/-
  The Book of layer 4's law: what it holds.
-/
namespace Go.Proofs.Ytbjffjplpnnhoaa
set_option linter.unusedVariables false
set_option linter.unusedSimpArgs false
open Go.RowKit

/-- The row's cells, the Book among them. -/
structure Bk where
  dsv : Value
  rsv : Value
  gv : Value
  size : Int
  next : Int
  cv : Value
  wv : Value
  rest : Int
  pages : Int
def Bk.cells (k : Bk) : Array Value := #[k.dsv, k.rsv, k.gv, .int .i64 k.size, .int .i64 k.next, k.cv, k.wv, .int .i64 k.rest, .bool false, .int .i64 k.pages]
def BkAt (w : World) (b : Nat) (k : Bk) : Prop := w.heap[b]? = some (.cells k.cells 77 (0, 0))
section
variable {w w' : World} {b : Nat} {k : Bk}
theorem BkAt.at (h : BkAt w b k) : w.cell? ⟨b, 0, none⟩ = some k.dsv ∧ w.cell? ⟨b, 1, none⟩ = some k.rsv ∧ w.cell? ⟨b, 2, none⟩ = some k.gv ∧ w.cell? ⟨b, 3, none⟩ = some (.int .i64 k.size) ∧ w.cell? ⟨b, 4, none⟩ = some (.int .i64 k.next) ∧
    w.cell? ⟨b, 5, none⟩ = some k.cv ∧ w.cell? ⟨b, 6, none⟩ = some k.wv ∧ w.cell? ⟨b, 7, none⟩ = some (.int .i64 k.rest) ∧ w.cell? ⟨b, 8, none⟩ = some (.bool false) ∧ w.cell? ⟨b, 9, none⟩ = some (.int .i64 k.pages) := by
  refine ⟨?_, ?_, ?_, ?_, ?_, ?_, ?_, ?_, ?_, ?_⟩ <;> (rw [cell_of_row w b _ _ _ _ h]; rfl)
theorem BkAt.free (h : BkAt w b k) (j : Nat) : w.frozen? ⟨b, j, none⟩ = false := frozen_of_row w b j _ _ h
theorem BkAt.set (h : BkAt w b k) (j : Nat) (v : Value) {k' : Bk} (e : k.cells.setIfInBounds j v = k'.cells) : BkAt (w.setCell ⟨b, j, none⟩ v) b k' := by
  have := heap_setCell_same w b j _ _ v h
  rw [e] at this
  exact this
theorem BkAt.keep (h : BkAt w b k) (hb : w'.heap[b]? = w.heap[b]?) : BkAt w' b k := hb.trans h
end
/-- A group: a mark's number and its three lists. -/
structure Grp where
  mark : Int
  v0 : Value
  v1 : Value
  v2 : Value
def Grp.cells (g : Grp) : List Value := [g.v0, g.v1, g.v2, .int .i64 g.mark]
def Grp.foot (g : Grp) : List Nat := g.v0.ownBlock.toList ++ g.v1.ownBlock.toList ++ g.v2.ownBlock.toList
def Grp.ok (w : World) (g : Grp) : Prop := ∃ m0 m1 m2, m0 ≤ 33554432 ∧ m1 ≤ 33554432 ∧ m2 ≤ 33554432 ∧ OwnB w g.v0 (marks g.mark m0) ∧ OwnB w g.v1 (marks g.mark m1) ∧ OwnB w g.v2 (marks g.mark m2)
theorem info_group : (Try.prog.info? 104).map (fun i => (i.zero, i.size, i.bytes)) = some (some (.agg #[.slice none 0 0, .slice none 0 0, .slice none 0 0, .int .i64 0]), 4, 80) := by kernel_rfl
theorem built_3bs (a b c : Option Addr) (n0 n1 n2 c0 c1 c2 : Nat) : Try.prog.built 102 [(0, .slice a n0 c0), (1, .slice b n1 c1), (2, .slice c n2 c2)] = some #[.slice a n0 c0, .slice b n1 c1, .slice c n2 c2] := by kernel_rfl
theorem built_group (a b c : Value) (m : Int) : Try.prog.built 104 [(0, .agg #[a, b, c]), (1, .int .i64 m)] = some #[a, b, c, .int .i64 m] := by kernel_rfl
theorem run_buildSlice_u8 (w : World) (x : Int) : (Instr.buildSlice 29 1 #[(0, .int .u8 x)]).run Try.prog w = .ok (.slice (some ⟨w.heap.size, 0, none⟩) 1 1) (w.alloc (.cells #[.int .u8 x] 5 (0, 0))) := by
  obtain ⟨i, hi, h1, h2, h3⟩ := info_parts info_u8
  refine run_buildSlice w _ _ _ _ _ i (.int .u8 0) Try.underlying29 hi h1 (by rw [h2]; omega) (by rw [h2]; omega) ?_
  rw [h2]
  kernel_rfl
theorem run_buildSlice_u8_2 (w : World) (x y : Int) : (Instr.buildSlice 29 2 #[(0, .int .u8 x), (1, .int .u8 y)]).run Try.prog w = .ok (.slice (some ⟨w.heap.size, 0, none⟩) 2 2) (w.alloc (.cells #[.int .u8 x, .int .u8 y] 5 (0, 0))) := by
  obtain ⟨i, hi, h1, h2, h3⟩ := info_parts info_u8
  refine run_buildSlice w _ _ _ _ _ i (.int .u8 0) Try.underlying29 hi h1 (by rw [h2]; omega) (by rw [h2]; omega) ?_
  rw [h2]
  kernel_rfl

def isSl (v : Value) : Prop := ∃ a n c, v = .slice a n c
def Grp.isS (g : Grp) : Prop := isSl g.v0 ∧ isSl g.v1 ∧ isSl g.v2
def lenAt (w : World) (b : Nat) : Nat := match w.cell? ⟨b, 2, none⟩ with | some (.slice _ n _) => n | _ => 0
theorem size_3bs : (Try.prog.info? 102).map (·.size) = some 3 := by kernel_rfl
theorem store_3bs (w : World) {l : List Value} (h : l.length = 3) (h1 : ∀ v ∈ l, v.oneCell' = true) : (Instr.storeAt 102 (.pointer (some ⟨w.heap.size, 0, none⟩)) (.agg l.toArray)).run Try.prog (w.alloc (.cells #[.slice none 0 0, .slice none 0 0, .slice none 0 0] 102)) = .ok () (w.alloc (.cells l.toArray 102)) :=
  run_storeAt_new w 102 #[.slice none 0 0, .slice none 0 0, .slice none 0 0] l.toArray (by rw [size_3bs]; simp [h]) (by simp [h]) (all_oneCell_toArray h1)
theorem sizeOf_group (w : World) : (Go.sizeOf 104).run Try.prog w = .ok 4 w := by
  obtain ⟨i, hi, h1, h2, h3⟩ := info_parts info_group
  simp [sizeOf, typeInfo, hi, h2]

/-- All but the first, whatever the world. -/
theorem QOwn.tailAll {w : World} {t : TypeId} {size n : Nat} {xs : List Value} {ts : TypeId} {a : Option Addr} {c : Nat} {x : List Value} (h : QOwn w t size (.slice a (n + 1) c) (n + 1) (x ++ xs)) (hx : x.length = size) (ht : Try.prog.underlying ts = some (.slice t)) (hz : ∀ w, (Go.sizeOf t).run Try.prog w = .ok size w) :
    ∃ a' c', (∀ W, (Instr.sliceAt ts (.slice a (n + 1) c) (some (.int .i64 1)) none none).run Try.prog W = .ok (.slice a' n c') W) ∧ QOwn w t size (.slice a' n c') n xs ∧ (Value.slice a' n c').ownBlock = (Value.slice a (n + 1) c).ownBlock := by
  have ht' : Try.prog.underlying ts = some (.slice (Try.prog.elem ts)) := by simp [Program.elem, ht]
  have he : Try.prog.elem ts = t := by simp [Program.elem, ht]
  obtain ⟨a', c', hr, hq, ho⟩ := h.tail hx ht hz
  refine ⟨a', c', fun W => ?_, hq, ho⟩
  have r1 := run_slice_l (P := Try.prog) (w := w) ts a (n + 1) c ht' .i64 1 (by omega) (by omega)
  have r2 := run_slice_l (P := Try.prog) (w := W) ts a (n + 1) c ht' .i64 1 (by omega) (by omega)
  rw [he, hz, ← run_sliceAt_slice _ ts _ _ _ _ ht'] at r1 r2
  simp only [Result.andThen] at r1 r2
  have hr2 := r1.symm.trans hr
  have hr3 := (Result.ok.inj hr2).1
  exact r2.trans (congrArg (Result.ok · W) hr3)
theorem info_bytes : (Try.prog.info? 29).map (fun i => (i.zero, i.size, i.bytes)) = some (some (.slice none 0 0), 1, 24) := by kernel_rfl
theorem sizeOf_bytes (w : World) : (Go.sizeOf 29).run Try.prog w = .ok 1 w := by
  obtain ⟨i, hi, h1, h2, h3⟩ := info_parts info_bytes
  simp [sizeOf, typeInfo, hi, h2]
theorem QOwn.tailPos {w : World} {t : TypeId} {size N : Nat} {xs : List Value} {ts : TypeId} {a : Option Addr} {c : Nat} {x : List Value} (h : QOwn w t size (.slice a N c) N (x ++ xs)) (hN : 0 < N) (hx : x.length = size) (ht : Try.prog.underlying ts = some (.slice t)) (hz : ∀ w, (Go.sizeOf t).run Try.prog w = .ok size w) :
    ∃ a' c', (∀ W, (Instr.sliceAt ts (.slice a N c) (some (.int .i64 1)) none none).run Try.prog W = .ok (.slice a' (N - 1) c') W) ∧ QOwn w t size (.slice a' (N - 1) c') (N - 1) xs ∧ (Value.slice a' (N - 1) c').ownBlock = (Value.slice a N c).ownBlock := by
  obtain ⟨n, rfl⟩ : ∃ n, N = n + 1 := ⟨N - 1, by omega⟩
  exact h.tailAll hx ht hz
theorem lenAt_bk {w : World} {b : Nat} {k : Bk} (h : BkAt w b k) {a : Option Addr} {n c : Nat} (e : k.gv = .slice a n c) : lenAt w b = n := by
  unfold lenAt
  rw [h.at.2.2.1, e]
/-- All but the first, as the walk spells it. -/
def rest1 (g o size c : Nat) : Option Addr := if c = 1 then some ⟨g, o, none⟩ else some ⟨g, o + size, none⟩
theorem QOwn.rest {w : World} {t : TypeId} {size N : Nat} {xs x : List Value} {g o c : Nat} (h : QOwn w t size (.slice (some ⟨g, o, none⟩) N c) N (x ++ xs)) (hN : 0 < N) (hx : x.length = size) :
    QOwn w t size (.slice (rest1 g o size c) (N - 1) (c - 1)) (N - 1) xs ∧ (Value.slice (rest1 g o size c) (N - 1) (c - 1)).ownBlock = some g := by
  obtain ⟨n, rfl⟩ : ∃ n, N = n + 1 := ⟨N - 1, by omega⟩
  rw [Nat.add_sub_cancel]
  obtain ⟨hl, h2⟩ := h
  rcases h2 with ⟨h0, _⟩ | ⟨g', o', cap, cur, hv, hh, r1, r2, r3, r4⟩
  · cases h0
  · injection hv with e1 _ e3
    injection e1 with e1
    injection e1 with e1 e4
    subst e1 e3 e4
    rw [List.length_append, hx, Nat.add_mul] at hl
    have hxl : xs.length = n * size := by omega
    have key : (cur.toList.drop (o + size)).take (n * size) = xs := by
      have e1 : ((cur.toList.drop o).take ((n + 1) * size)).drop size = xs := by rw [r4, ← hx, List.drop_left]
      rw [List.drop_take, List.drop_drop] at e1
      rw [show (n + 1) * size - size = n * size from by rw [Nat.add_mul]; omega] at e1
      exact e1
    unfold rest1
    by_cases hc : c = 1
    · subst hc
      have hn0 : n = 0 := by omega
      subst hn0
      have hx0 : xs = [] := List.eq_nil_of_length_eq_zero (by omega)
      rw [if_pos rfl]
      exact ⟨⟨by simp [hx0], .inr ⟨g, o, 0, cur, rfl, hh, Nat.le_refl _, by simp [maxLen], by omega, by simp [hx0]⟩⟩, rfl⟩
    · rw [if_neg hc]
      refine ⟨⟨hxl, .inr ⟨g, o + size, c - 1, cur, rfl, hh, by omega, by omega, ?_, key⟩⟩, rfl⟩
      have : c * size = (c - 1) * size + size := by
        obtain ⟨c', rfl⟩ : ∃ c', c = c' + 1 := ⟨c - 1, by omega⟩
        rw [Nat.add_mul]; simp
      omega
/-- What keep has made holds together behind the groups that it drops. -/
theorem keep_close {w w1 w2 w6 wd w8 wr : World} {b : Nat} {k : Bk} {n : Int} {av : Option Addr} {L cv g6 c6 gh M ch gq N cq : Nat} {aq : Option Addr}
    (hHN2 : (Value.slice av L cv).ownBlock ≠ some b) (hHN3 : ∀ j, k.gv.ownBlock = some j → (Value.slice av L cv).ownBlock ≠ some j) (hs1 : w.heap.size ≤ w1.heap.size) (hs2 : w1.heap.size ≤ w2.heap.size) (hs6 : w6.heap.size ≤ wd.heap.size) (hs26 : w2.heap.size ≤ w6.heap.size)
    (hb1 : b < w1.heap.size) (hg1 : ∀ j, k.gv.ownBlock = some j → j < w1.heap.size)
    (h0 : OwnB w6 (.slice av L cv) (marks n L)) (h1 : OwnB w6 (.slice (some ⟨g6, 0, none⟩) (L + 1) c6) (marks n (L + 1))) (h2 : OwnB w6 (.slice (some ⟨gh, 0, none⟩) M ch) (marks n M))
    (hg6 : (Value.slice av L cv).ownBlock = some g6 ∨ w2.heap.size ≤ g6) (hgh : (Value.slice av L cv).ownBlock = some gh ∨ w2.heap.size ≤ gh) (hM : M ≤ L + 302) (hL : L ≤ 16777216)
    (hok : ∀ u j, OwnB w6 u (marks n j) → u.ownBlock ≠ some b → (∀ i, u.ownBlock = some i → k.gv.ownBlock ≠ some i) → OwnB w8 u (marks n j)) (hkr : Keeps [b] w8 wr) (hgq : k.gv.ownBlock = some gq ∨ wd.heap.size ≤ gq)
    (hqb : (Value.slice aq N cq).ownBlock = some gq) {G : Grp} (hG : G = ⟨n, .slice av L cv, .slice (some ⟨g6, 0, none⟩) (L + 1) c6, .slice (some ⟨gh, 0, none⟩) M ch⟩) :
    Grp.ok wr G ∧ G.isS ∧ (∀ i, i ∈ G.foot → (Value.slice av L cv).ownBlock = some i ∨ w.heap.size ≤ i) ∧ (∀ i, (Value.slice aq N cq).ownBlock = some i → (k.gv.ownBlock = some i ∨ w.heap.size ≤ i) ∧ ¬ i ∈ G.foot) := by
  have key : ∀ u j, OwnB w6 u (marks n j) → ((Value.slice av L cv).ownBlock = u.ownBlock ∨ ∀ i, u.ownBlock = some i → w2.heap.size ≤ i) → OwnB wr u (marks n j) ∧ (∀ i, u.ownBlock = some i → (Value.slice av L cv).ownBlock = some i ∨ w.heap.size ≤ i) ∧ (∀ i, u.ownBlock = some i → i ≠ gq) := by
    intro u j hu hat
    have e1 : u.ownBlock ≠ some b := by
      rcases hat with e | e
      · rw [← e]; exact hHN2
      · intro h; have := e b h; omega
    have e2 : ∀ i, u.ownBlock = some i → k.gv.ownBlock ≠ some i := by
      intro i hi hgi
      rcases hat with e | e
      · exact hHN3 i hgi (e.trans hi)
      · have := e i hi; have := hg1 i hgi; omega
    have h8 := hok u j hu e1 e2
    refine ⟨ownsRow_keep h8 (fun i hi => hkr.block i (World.ownsRow.lt h8 i hi).2 (by simp; rintro rfl; exact e1 hi)), fun i hi => ?_, fun i hi hq => ?_⟩
    · rcases hat with e | e
      · exact .inl (e.trans hi)
      · have := e i hi; exact .inr (by omega)
    · subst hq
      rcases hgq with hgq | hgq
      · exact e2 i hi hgq
      · have := (World.ownsRow.lt hu i hi).2; omega
  obtain ⟨k0, l0, m0⟩ := key _ _ h0 (.inl rfl)
  obtain ⟨k1, l1, m1⟩ := key _ _ h1 (hg6.imp id (by
    intro h i hi
    have e : g6 = i := by simpa [Value.ownBlock] using hi
    omega))
  obtain ⟨k2, l2, m2⟩ := key _ _ h2 (hgh.imp id (by
    intro h i hi
    have e : gh = i := by simpa [Value.ownBlock] using hi
    omega))
  subst hG
  refine ⟨⟨L, L + 1, M, by omega, by omega, by omega, k0, k1, k2⟩, ⟨⟨_, _, _, rfl⟩, ⟨_, _, _, rfl⟩, ⟨_, _, _, rfl⟩⟩, fun i hi => ?_, fun i hi => ?_⟩
  · simp only [Grp.foot, List.mem_append, Option.mem_toList] at hi
    rcases hi with (hi | hi) | hi
    · exact l0 i hi
    · exact l1 i hi
    · exact l2 i hi
  · rw [hqb] at hi
    injection hi with hi
    subst hi
    refine ⟨hgq.imp id (fun h => by omega), fun hf => ?_⟩
    simp only [Grp.foot, List.mem_append, Option.mem_toList] at hf
    rcases hf with (hf | hf) | hf
    · exact m0 gq hf rfl
    · exact m1 gq hf rfl
    · exact m2 gq hf rfl
end Go.Proofs.Ytbjffjplpnnhoaa
