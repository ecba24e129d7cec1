/-
  A page of the reference disk: what the walk of 'page' carries along.
-/
import Derived.Test.YtbjffjplpnnhoaaRfH
import Derived.Test.YtbjffjplpnnhoaaRfL
namespace Go.Proofs.Ytbjffjplpnnhoaa
set_option linter.unusedVariables false
set_option linter.unusedSimpArgs false
open Go.RowKit

theorem info_int : (Try.prog.info? 3).map (fun i => (i.zero, i.size, i.bytes)) = some (some (.int .i64 0), 1, 8) := by kernel_rfl
theorem run_buildSlice_int (w : World) (x : Int) : (Instr.buildSlice 115 1 #[(0, .int .i64 x)]).run Try.prog w = .ok (.slice (some ⟨w.heap.size, 0, none⟩) 1 1) (w.alloc (.cells #[.int .i64 x] 3 (0, 0))) := by
  obtain ⟨i, hi, h1, h2, h3⟩ := info_parts info_int
  simp [Instr.buildSlice, run_underlying Try.underlying115, sizeOf, typeInfo, hi, h2, zeroValue, h1, Instr.fill, Value.cells, newRow, Result.andThen]
  generalize hX : Array.map _ (Array.range 1) = X
  have hXs : X.size = 1 := by rw [← hX]; simp
  have e : X.setIfInBounds 0 (Value.int .i64 x) = #[.int .i64 x] := by
    apply Array.ext
    · simp [hXs]
    · intro j h1 h2
      have hj : j = 0 := by simp at h2; omega
      subst hj
      simp
  rw [e]
/-- One int behind a list of one's own. -/
theorem push_int {w : World} {base : Nat} {v : Value} {n : Nat} {xs : List Value} (h : w.ownsRow base 3 1 v n xs) (hn : n < 4294967296) (hb : base ≤ w.heap.size) (x : Int) (ty : TypeId) :
    ∃ g cap w', (Builtin.append_ #[115, 115] ty #[v, .slice (some ⟨w.heap.size, 0, none⟩) 1 1]).run Try.prog (w.alloc (.cells #[.int .i64 x] 3 (0, 0))) = .ok (.slice (some ⟨g, 0, none⟩) (n + 1) cap) w' ∧
      w'.ownsRow base 3 1 (.slice (some ⟨g, 0, none⟩) (n + 1) cap) (n + 1) (xs ++ [.int .i64 x]) ∧ Keeps v.ownBlock.toList w w' ∧ (v.ownBlock = some g ∨ w.heap.size ≤ g) := by
  obtain ⟨i0, hi0, hz0, hz1, hz2⟩ := info_parts info_int
  obtain ⟨w1, hw1⟩ : ∃ w1, w1 = w.alloc (.cells #[.int .i64 x] 3 (0, 0)) := ⟨_, rfl⟩
  have hs1 : w1.heap.size = w.heap.size + 1 := by rw [hw1]; simp
  have h1 : w1.ownsRow base 3 1 v n xs := ownsRow_keep h (fun k hk => by rw [hw1]; exact heap_old_at (World.ownsRow.lt h k hk).2)
  have l2 : ∀ j u, [Value.int .i64 x][j]? = some u → w1.cell? ((⟨w.heap.size, 0, none⟩ : Addr).add j) = some u := by rw [hw1]; exact World.news_of_block (cs := #[.int .i64 x]) (t := 3) (fr := (0, 0)) (heap_new_at rfl)
  obtain ⟨g, cap, w2, hr, h2, h3, h4, h5⟩ := run_append_lies (P := Try.prog) w1 115 ty base 3 i0 (.int .i64 0) 1 8 Try.underlying115 hi0 hz0 hz1 hz2 (by rfl) (by omega) v n xs h1 ⟨w.heap.size, 0, none⟩ 1 1 [.int .i64 x] rfl l2 (by simp [Value.oneCell']) (by omega) (by simp only [maxLen]; omega) (by omega) (by omega) (w.heap.size + 1) hs1
  rw [← hw1]
  have k1 : Keeps [] w w1 := by rw [hw1]; exact (Keeps.refl _ _).alloc _
  exact ⟨g, cap, w2, hr, h2, (k1.mono (G := v.ownBlock.toList) (by simp)).grown h3 (fun j hj => .inl (by simp [hj])), h4.imp id (fun e => by omega)⟩
theorem ints_cell {w : World} {base g n cap : Nat} {xs : List Value} (h : w.ownsRow base 3 1 (.slice (some ⟨g, 0, none⟩) n cap) n xs) {i : Nat} {u : Value} (hi : xs[i]? = some u) : w.cell? ⟨g, i, none⟩ = some u := by
  have := owns_range h i u hi
  rwa [Nat.zero_add] at this

def dat (log : List Ev) (i : Nat) : List UInt8 := ((log[i]?).map Ev.data).getD []
theorem dat_at {log : List Ev} {i : Nat} (h : i < log.length) : dat log i = log[i].data := by simp [dat, List.getElem?_eq_getElem h]
/-- The play of a log's first events. -/
def R.playN (r : R) (k : Nat) : Pl := (r.log.take k).foldl Pl.step ⟨r.base, []⟩
theorem R.playN_succ (r : R) {k : Nat} (h : k < r.log.length) : r.playN (k + 1) = (r.playN k).step r.log[k] := by
  unfold R.playN
  rw [List.take_succ_eq_append_getElem h, List.foldl_append]
  rfl
theorem R.playN_all (r : R) : r.playN r.log.length = r.play := by unfold R.playN R.play; rw [List.take_length]
theorem R.playN_fits {n : Nat} (r : R) (hb : r.base.length = 256 * n) (h : ∀ e ∈ r.log, e.fits n) (k : Nat) : (r.playN k).fits n :=
  play_fits _ ⟨hb, by simp⟩ (fun e he => h e (List.mem_of_mem_take he))
theorem Pl.step_q (s : Pl) (e : Ev) : (s.step e).q.length ≤ s.q.length + 1 := by
  unfold Pl.step
  split
  · simp
  · split
    · simp
    · split <;> simp
theorem R.playN_q (r : R) : ∀ k, k ≤ r.log.length → (r.playN k).q.length ≤ k := by
  intro k
  induction k with
  | zero => intro _; simp [R.playN]
  | succ k ih =>
    intro hk
    rw [r.playN_succ (by omega)]
    have := ih (by omega)
    have := (r.playN k).step_q (r.log[k]'(by omega))
    omega
/-- The open writes of a page: places in the log, places among the open writes. -/
structure Pm (log : List Ev) (p : Nat) (s : Pl) (ms : List (Nat × Nat)) : Prop where
  eq : ms.map (fun x => (x.2, dat log x.1)) = mineOf p s.q 0
  lt : ∀ x ∈ ms, x.1 < log.length
  kind : ∀ x ∈ ms, (dat log x.1).length = 256
theorem mineOf_le (p : Nat) : ∀ (q : List (Nat × List UInt8)) (s : Nat), (mineOf p q s).length ≤ q.length
  | [], _ => by simp [mineOf]
  | x :: q, s => by
    have := mineOf_le p q (s + 1)
    rw [mineOf]
    split <;> simp <;> omega
theorem mineOf_lt (p : Nat) : ∀ (q : List (Nat × List UInt8)) (s : Nat), ∀ x ∈ mineOf p q s, x.1 < s + q.length
  | [], _ => by simp [mineOf]
  | y :: q, s => by
    intro x hx
    rw [mineOf] at hx
    have ih := mineOf_lt p q (s + 1)
    split at hx
    · rcases List.mem_cons.1 hx with rfl | hx
      · simp
      · have := ih x hx
        simp; omega
    · have := ih x hx
      simp; omega
theorem Pm.len {log : List Ev} {p : Nat} {s : Pl} {ms : List (Nat × Nat)} (h : Pm log p s ms) : ms.length ≤ s.q.length := by
  have := mineOf_le p s.q 0
  rw [← h.eq, List.length_map] at this
  exact this
theorem Pm.place {log : List Ev} {p : Nat} {s : Pl} {ms : List (Nat × Nat)} (h : Pm log p s ms) : ∀ x ∈ ms, x.2 < s.q.length := by
  intro x hx
  have := mineOf_lt p s.q 0 (x.2, dat log x.1) (by rw [← h.eq]; exact List.mem_map.2 ⟨x, hx, rfl⟩)
  simpa using this
theorem Pm.nil {log : List Ev} {p : Nat} {s : Pl} (h : s.q = []) : Pm log p s [] := ⟨by rw [h]; rfl, by simp, by simp⟩
theorem Pm.write {log : List Ev} {p k : Nat} {s : Pl} {ms : List (Nat × Nat)} (h : Pm log p s ms) (hk : k < log.length) (hd : log[k].data.length = 256) (h1 : log[k].kind = 1) (hp : log[k].page = p) : Pm log p (s.step log[k]) (ms ++ [(k, s.q.length)]) := by
  refine ⟨?_, fun x hx => ?_, fun x hx => ?_⟩
  · unfold Pl.step
    rw [if_pos h1]
    simp only
    rw [mineOf_snoc, if_pos hp, List.map_append, h.eq]
    simp [dat_at hk]
  · rcases List.mem_append.1 hx with hx | hx
    · exact h.lt x hx
    · rw [List.mem_singleton.1 hx]; exact hk
  · rcases List.mem_append.1 hx with hx | hx
    · exact h.kind x hx
    · rw [List.mem_singleton.1 hx]; simp only; rw [dat_at hk]; exact hd
theorem Pm.other {log : List Ev} {p k : Nat} {s : Pl} {ms : List (Nat × Nat)} (h : Pm log p s ms) (hk : k < log.length) (h1 : log[k].kind = 1) (hp : log[k].page ≠ p) : Pm log p (s.step log[k]) ms := by
  refine ⟨?_, h.lt, h.kind⟩
  unfold Pl.step
  rw [if_pos h1]
  simp only
  rw [mineOf_snoc, if_neg hp, h.eq]
theorem Pm.flip {log : List Ev} {p k : Nat} {s : Pl} {ms : List (Nat × Nat)} (h : Pm log p s ms) (hk : k < log.length) (h4 : log[k].kind = 4) : Pm log p (s.step log[k]) ms := by
  refine ⟨?_, h.lt, h.kind⟩
  unfold Pl.step
  rw [if_neg (by omega), if_neg (by omega), if_neg (by omega)]
  exact h.eq
theorem img_write {s : Pl} {e : Ev} (h : e.kind = 1) : (s.step e).img = s.img := by unfold Pl.step; rw [if_pos h]
theorem q_write {s : Pl} {e : Ev} (h : e.kind = 1) : (s.step e).q.length = s.q.length + 1 := by unfold Pl.step; rw [if_pos h]; simp
theorem q_sync {s : Pl} {e : Ev} (h : e.kind = 2 ∨ e.kind = 3) : (s.step e).q = [] := by
  unfold Pl.step
  rcases h with h | h
  · rw [if_neg (by omega), if_pos h]
  · rw [if_neg (by omega), if_neg (by omega), if_pos h]
theorem q_flip {s : Pl} {e : Ev} (h : e.kind = 4) : (s.step e).q = s.q := by unfold Pl.step; rw [if_neg (by omega), if_neg (by omega), if_neg (by omega)]
theorem img_flip {s : Pl} {e : Ev} (h : e.kind = 4) : (s.step e).img = flipK s.img (2048 * e.page + e.bit) e.pat (min 32 (2048 - e.bit)) := by unfold Pl.step; rw [if_neg (by omega), if_neg (by omega), if_neg (by omega)]
/-- A page of one's own, and the two lists of ints. -/
structure Pd (w wr : World) (ms : List (Nat × Nat)) (nl : List UInt8) (g cap : Nat) (vm vp : Value) : Prop where
  now : OwnB wr (.slice (some ⟨g, 0, none⟩) 256 cap) nl
  nlen : nl.length = 256
  mine : wr.ownsRow w.heap.size 3 1 vm ms.length (ms.map fun x => .int .i64 x.1)
  place : wr.ownsRow w.heap.size 3 1 vp ms.length (ms.map fun x => .int .i64 x.2)
  ge : w.heap.size ≤ g
  ap1 : vm.ownBlock ≠ some g
  ap2 : vp.ownBlock ≠ some g
  ap3 : ∀ k, vm.ownBlock = some k → vp.ownBlock ≠ some k
  keeps : Keeps [] w wr
theorem Pd.drew {w wr : World} {ms : List (Nat × Nat)} {now : List UInt8} {g cap : Nat} {vm vp : Value} (h : Pd w wr ms now g cap vm vp) : Pd w wr.drew ms now g cap vm vp :=
  ⟨ownsRow_keep h.now (fun _ _ => rfl), h.nlen, ownsRow_keep h.mine (fun _ _ => rfl), ownsRow_keep h.place (fun _ _ => rfl), h.ge, h.ap1, h.ap2, h.ap3, h.keeps.drew⟩
/-- Nothing that is there changes. -/
theorem Pd.keep {w wr w' : World} {ms : List (Nat × Nat)} {now : List UInt8} {g cap : Nat} {vm vp : Value} (h : Pd w wr ms now g cap vm vp) (hk : Keeps [] wr w') : Pd w w' ms now g cap vm vp :=
  ⟨ownsRow_keep h.now (fun k hk' => hk.block k (World.ownsRow.lt h.now k hk').2 (by simp)), h.nlen, ownsRow_keep h.mine (fun k hk' => hk.block k (World.ownsRow.lt h.mine k hk').2 (by simp)),
    ownsRow_keep h.place (fun k hk' => hk.block k (World.ownsRow.lt h.place k hk').2 (by simp)), h.ge, h.ap1, h.ap2, h.ap3, h.keeps.trans (G := []) hk (by simp)⟩
/-- The page is another one, in new memory. -/
theorem Pd.newNow {w wr w' : World} {ms : List (Nat × Nat)} {now now' : List UInt8} {g cap : Nat} {vm vp : Value} (h : Pd w wr ms now g cap vm vp) (hk : Keeps [] wr w') {g' cap' : Nat}
    (ho : OwnB w' (.slice (some ⟨g', 0, none⟩) 256 cap') now') (hl : now'.length = 256) (hg : wr.heap.size ≤ g') : Pd w w' ms now' g' cap' vm vp := by
  have hb := h.keep hk
  have hsz := h.keeps.size
  refine ⟨ho, hl, hb.mine, hb.place, by omega, fun e => ?_, fun e => ?_, h.ap3, hb.keeps⟩
  · have := (World.ownsRow.lt h.mine _ e).2; omega
  · have := (World.ownsRow.lt h.place _ e).2; omega
/-- The page is another one, in its memory. -/
theorem Pd.setNow {w wr w' : World} {ms : List (Nat × Nat)} {now now' : List UInt8} {g cap : Nat} {vm vp : Value} (h : Pd w wr ms now g cap vm vp) (hk : Keeps [g] wr w')
    (ho : OwnB w' (.slice (some ⟨g, 0, none⟩) 256 cap) now') (hl : now'.length = 256) : Pd w w' ms now' g cap vm vp := by
  have hge := h.ge
  refine ⟨ho, hl, ownsRow_keep h.mine (fun k hk' => hk.block k (World.ownsRow.lt h.mine k hk').2 ?_), ownsRow_keep h.place (fun k hk' => hk.block k (World.ownsRow.lt h.place k hk').2 ?_), h.ge, h.ap1, h.ap2, h.ap3,
    h.keeps.trans (G := [g]) hk (fun k hk' => ?_)⟩
  · simp only [List.mem_singleton]; rintro rfl; exact h.ap1 hk'
  · simp only [List.mem_singleton]; rintro rfl; exact h.ap2 hk'
  · rw [List.mem_singleton.1 hk']; exact .inr hge
/-- One more of both lists. -/
theorem Pd.more {w wr w1 w2 : World} {ms : List (Nat × Nat)} {now : List UInt8} {g cap : Nat} {vm vp : Value} (h : Pd w wr ms now g cap vm vp) {i j : Nat} {g1 c1 g2 c2 : Nat} {n1 n2 : Nat}
    (hm : w1.ownsRow w.heap.size 3 1 (.slice (some ⟨g1, 0, none⟩) n1 c1) n1 (ms.map (fun x => .int .i64 x.1) ++ [.int .i64 i])) (hk1 : Keeps vm.ownBlock.toList wr w1) (hg1 : vm.ownBlock = some g1 ∨ wr.heap.size ≤ g1)
    (hp : w2.ownsRow w.heap.size 3 1 (.slice (some ⟨g2, 0, none⟩) n2 c2) n2 (ms.map (fun x => .int .i64 x.2) ++ [.int .i64 j])) (hk2 : Keeps vp.ownBlock.toList w1 w2) (hg2 : vp.ownBlock = some g2 ∨ w1.heap.size ≤ g2)
    (e1 : n1 = ms.length + 1) (e2 : n2 = ms.length + 1) :
    Pd w w2 (ms ++ [(i, j)]) now g cap (.slice (some ⟨g1, 0, none⟩) n1 c1) (.slice (some ⟨g2, 0, none⟩) n2 c2) := by
  have hge := h.ge
  have hgl := (World.ownsRow.lt h.now g rfl).2
  have hs1 := hk1.size
  have hm1 := (World.ownsRow.lt hm g1 rfl).2
  have hne12 : vp.ownBlock ≠ some g1 := by
    rcases hg1 with hg1 | hg1
    · exact h.ap3 g1 hg1
    · intro e
      have := (World.ownsRow.lt h.place g1 e).2
      omega
  refine ⟨?_, h.nlen, ?_, ?_, h.ge, ?_, ?_, ?_, ?_⟩
  · refine ownsRow_keep h.now (fun k hk => ?_)
    have e : g = k := by simpa [Value.ownBlock] using hk
    subst e
    rw [hk2.block g (by omega) (by simpa using h.ap2), hk1.block g hgl (by simpa using h.ap1)]
  · rw [List.length_append, List.map_append]
    simp only [List.length_cons, List.length_nil, Nat.zero_add, List.map_cons, List.map_nil]
    rw [e1] at hm ⊢
    exact ownsRow_keep hm (fun k hk => by
      have e : g1 = k := by simpa [Value.ownBlock] using hk
      subst e
      exact hk2.block g1 hm1 (by simpa using hne12))
  · rw [List.length_append, List.map_append]
    simp only [List.length_cons, List.length_nil, Nat.zero_add, List.map_cons, List.map_nil]
    rw [e2] at hp ⊢
    exact hp
  · intro e
    have e : g1 = g := by simpa [Value.ownBlock] using e
    subst e
    rcases hg1 with hg1 | hg1
    · exact h.ap1 hg1
    · omega
  · intro e
    have e : g2 = g := by simpa [Value.ownBlock] using e
    subst e
    rcases hg2 with hg2 | hg2
    · exact h.ap2 hg2
    · omega
  · intro k hk e
    have ea : g1 = k := by simpa [Value.ownBlock] using hk
    have eb : g2 = k := by simpa [Value.ownBlock] using e
    subst ea
    rcases hg2 with hg2 | hg2
    · exact hne12 (by rw [hg2, eb])
    · omega
  · have b1 : ∀ k ∈ vm.ownBlock.toList, k ∈ ([] : List Nat) ∨ w.heap.size ≤ k := fun k hk => .inr (World.ownsRow.lt h.mine k (by simpa using hk)).1
    have b2 : ∀ k ∈ vp.ownBlock.toList, k ∈ ([] : List Nat) ∨ w.heap.size ≤ k := fun k hk => .inr (World.ownsRow.lt h.place k (by simpa using hk)).1
    exact (h.keeps.trans (G := vm.ownBlock.toList) hk1 b1).trans (G := vp.ownBlock.toList) hk2 b2
/-- The lists are empty again. -/
theorem Pd.clear {w wr : World} {ms : List (Nat × Nat)} {now : List UInt8} {g cap : Nat} {vm vp : Value} (h : Pd w wr ms now g cap vm vp) : Pd w wr [] now g cap (.slice none 0 0) (.slice none 0 0) :=
  ⟨h.now, h.nlen, World.ownsRow_nil _ _ _ _, World.ownsRow_nil _ _ _ _, h.ge, by simp [Value.ownBlock], by simp [Value.ownBlock], by simp [Value.ownBlock], h.keeps⟩
end Go.Proofs.Ytbjffjplpnnhoaa
