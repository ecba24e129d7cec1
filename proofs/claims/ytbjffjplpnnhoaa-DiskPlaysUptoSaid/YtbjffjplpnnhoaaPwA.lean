/-
  Layer 4's law of power: the disk's calls where it is armed.
-/
import Derived.Test.YtbjffjplpnnhoaaDtA
namespace Go.Proofs.Ytbjffjplpnnhoaa
set_option linter.unusedVariables false
set_option linter.unusedSimpArgs false
open Go.RowKit

theorem arm_thing {w : World} {b : Nat} {d : D} {F : List Nat} (h : DiskAt w b d F) (hd : d.dead = false) (n : Int) (n1 : n ≤ 9223372036854775807) {d' : D} (he : d' = { d with armed := max n 0 }) :
    Calls Try.prog 27 #[.pointer (some ⟨b, 0, none⟩), .int .i64 n] w fun e w' => e = .returned (.tuple #[]) ∧ Keeps F w w' ∧ DiskAt w' b d' F := by
  subst he
  obtain ⟨bp, qv, bm, hI, rfl⟩ := h
  obtain ⟨c0, c1, c2, c3, c4, c5, c6, c7, c8, c9⟩ := hI.cells
  rw [hd] at c8
  refine (dArm_any c7 c8 (hI.free 7)).mono ?_
  rintro e w' ⟨rfl, hw⟩
  simp only [Bool.false_eq_true, if_false] at hw
  subst hw
  refine ⟨rfl, (Keeps.refl _ _).setCell (.inl (by simp)) _, bp, qv, bm, hI.setc { d with armed := max n 0 } 7 _ rfl rfl ?_ rfl, rfl⟩
  obtain ⟨o1, o2, o3, o4, o5, o6⟩ := hI.ok
  exact ⟨o1, o2, o3, o4, by simp only; omega, by simp only; omega⟩
theorem write_thing {w : World} {b : Nat} {d : D} {F : List Nat} (h : DiskAt w b d F) (hd : d.dead = false) (page : Nat) (hp : page < d.n) {g c : Nat} {data : List UInt8} (hl : data.length = 256)
    (hO : OwnB w (.slice (some ⟨g, 0, none⟩) 256 c) data) (hq : d.q.length < 4294967296) {r : Int} (hr : r = if d.armed = 1 then 2 else 0) :
    Calls Try.prog 24 #[.pointer (some ⟨b, 0, none⟩), .int .i64 page, .slice (some ⟨g, 0, none⟩) 256 c] w fun e w' => e = .returned (.int .i64 r) ∧ Keeps F w w' ∧ ∃ F', DiskAt w' b (d.write page data) F' ∧ From w F F' := by
  subst hr
  obtain ⟨bp, qv, bm, hI, rfl⟩ := h
  obtain ⟨cur, hh, hn, h1, h2, h3, h4⟩ := hO.row
  have hrr : w.rangeAt g 0 (data.map B) := by
    rcases ownB_bytes hO with ⟨h0, _⟩ | ⟨g', o', c', hv, _, _, _, h5⟩
    · rw [h0] at hl; simp at hl
    · injection hv with e _ _
      injection e with e
      injection e with e1 e2 _
      subst e1 e2
      exact h5
  refine (dWrite_ok page hI hd hp hl (lt_of_heap hh) hrr h1 hq).mono ?_
  rintro e w' ⟨rfl, qv', hI', hk, hqv⟩
  refine ⟨rfl, hk, _, ⟨bp, qv', bm, hI', rfl⟩, fun k hk' => ?_⟩
  simp only [List.mem_cons, Option.mem_toList] at hk' ⊢
  rcases hk' with hk' | hk' | hk' | hk'
  · exact .inl (.inl hk')
  · exact .inl (.inr (.inl hk'))
  · exact .inl (.inr (.inr (.inl hk')))
  · rcases hqv with e | ⟨g', e, hg'⟩
    · exact .inl (.inr (.inr (.inr (e ▸ hk'))))
    · rw [e] at hk'
      injection hk' with hk'
      subst hk'
      exact .inr hg'
theorem sync_gone_thing {w : World} {b : Nat} {d : D} {F : List Nat} (h : DiskAt w b d F) (hd : d.dead = false) (ha : d.armed = 1) :
    Calls Try.prog 13 #[.pointer (some ⟨b, 0, none⟩)] w fun e w' => e = .returned (.int .i64 2) ∧ Keeps F w w' ∧ DiskAt w' b d.act F := by
  obtain ⟨bp, qv, bm, hI, rfl⟩ := h
  refine (dSync_gone hI hd ha).mono ?_
  rintro e w' ⟨rfl, hI', hk⟩
  exact ⟨rfl, hk.mono (by simp), bp, qv, bm, hI', rfl⟩
theorem sync_ok_thing {w : World} {b : Nat} {d : D} {F : List Nat} (h : DiskAt w b d F) (hd : d.dead = false) (ha : d.armed ≠ 1) :
    Calls Try.prog 13 #[.pointer (some ⟨b, 0, none⟩)] w fun e w' => e = .returned (.int .i64 0) ∧ Keeps F w w' ∧ ∃ F', DiskAt w' b d.sync F' ∧ From w F F' := by
  obtain ⟨bp, qv, bm, hI, rfl⟩ := h
  refine (dSync_ok hI hd ha).mono ?_
  rintro e w' ⟨rfl, hI', hk⟩
  exact ⟨rfl, hk.mono (by simp), _, ⟨bp, _, bm, hI', rfl⟩, fun k hk => .inl (by simp [Value.ownBlock] at hk; rcases hk with h | h | h <;> simp [h])⟩
theorem power_thing {w : World} {b : Nat} {d : D} {F : List Nat} (h : DiskAt w b d F) {p : Bool} (hd : d.dead = !p) :
    Calls Try.prog 20 #[.pointer (some ⟨b, 0, none⟩)] w fun e w' => e = .returned (.bool p) ∧ w = w' := by
  obtain ⟨bp, qv, bm, hI, rfl⟩ := h
  obtain ⟨c0, c1, c2, c3, c4, c5, c6, c7, c8, c9⟩ := hI.cells
  rw [hd] at c8
  have := dPower_any c8
  rwa [Bool.not_not] at this
theorem write_page_thing {w : World} {b : Nat} {d : D} {F : List Nat} (h : DiskAt w b d F) (hd : d.dead = false) {page : Int} {dv : Value} (hp : page < 0 ∨ (d.n : Int) ≤ page) :
    Calls Try.prog 24 #[.pointer (some ⟨b, 0, none⟩), .int .i64 page, dv] w fun e w' => e = .returned (.int .i64 41) ∧ w = w' := by
  obtain ⟨bp, qv, bm, hI, rfl⟩ := h
  obtain ⟨c0, c1, c2, c3, c4, c5, c6, c7, c8, c9⟩ := hI.cells
  rw [hd] at c8
  exact dWrite_page c4 c8 hp
theorem write_size_thing {w : World} {b : Nat} {d : D} {F : List Nat} (h : DiskAt w b d F) (hd : d.dead = false) {page : Int} {a : Option Addr} {len c : Nat} (hp : 0 ≤ page) (hp1 : page < d.n) (hl : len ≠ 256) :
    Calls Try.prog 24 #[.pointer (some ⟨b, 0, none⟩), .int .i64 page, .slice a len c] w fun e w' => e = .returned (.int .i64 42) ∧ w = w' := by
  obtain ⟨bp, qv, bm, hI, rfl⟩ := h
  obtain ⟨c0, c1, c2, c3, c4, c5, c6, c7, c8, c9⟩ := hI.cells
  rw [hd] at c8
  exact dWrite_size c4 c8 hp hp1 hl

/-- make([]byte, n) of zeros. -/
theorem make_bytes (w : World) (n : Nat) (hn : n ≤ 1048576) :
    (Instr.makeSlice 29 (.int .i64 n) (.int .i64 n)).run Try.prog w = .ok (.slice (some ⟨w.heap.size, 0, none⟩) n n) (w.alloc (.cells ((List.replicate n (0 : UInt8)).map B).toArray 5 (0, 0))) := by
  obtain ⟨i0, hi, hz0, hz1, hz2⟩ := info_parts info_u8
  have hmk := run_make (P := Try.prog) w 29 5 i0 _ Try.underlying29 hi hz0 .i64 .i64 (n : Int) (n : Int) (by omega) (by omega) (by rw [hz2]; omega) (by omega)
  have hz : madeCells (Value.int .u8 0).cells (Int.toNat (n : Int) * i0.size) = (((List.replicate n (0 : UInt8))).map B).toArray := by
    rw [hz1, show (Value.int .u8 0).cells = Array.replicate 1 (.int .u8 0) from rfl, madeCells_same 1 _ _ (by omega)]
    simp only [List.map_replicate, Nat.mul_one, Int.toNat_natCast]
    rfl
  rw [hz] at hmk
  simpa only [Int.toNat_natCast] using hmk
theorem own_made (w : World) (n : Nat) (hn : n ≤ 1048576) : OwnB (w.alloc (.cells ((List.replicate n (0 : UInt8)).map B).toArray 5 (0, 0))) (.slice (some ⟨w.heap.size, 0, none⟩) n n) (List.replicate n 0) :=
  ⟨by simp, .inr ⟨w.heap.size, n, ((List.replicate n (0 : UInt8)).map B).toArray, by simp, Nat.zero_le _, heap_new_at rfl, by simp, by simp only [maxLen]; omega, by simp, by simp⟩⟩

/-- What holds behind i acts: g says whether power is gone, o how many writes are open. -/
structure Pow (n : Int) (i : Nat) (g : Bool) (o : Nat) (d : D) : Prop where
  n3 : d.n = 3
  ep : d.epoch = 0
  q : d.q.length = o
  oi : o ≤ i
  dead : d.dead = g
  on : g = false → (n ≤ 0 ∧ d.armed = 0) ∨ ((i : Int) < n ∧ d.armed = n - i)
namespace Pow
variable {n : Int} {i o : Nat} {g : Bool} {d : D}
theorem one (h : Pow n i false o d) : d.armed = 1 ↔ (i : Int) + 1 = n := by
  rcases h.on rfl with ⟨h1, h2⟩ | ⟨h1, h2⟩ <;> omega
theorem start {n : Int} {d : D} (hd : d = { D.new 3 with armed := max n 0 }) : Pow n 0 false 0 d := by
  subst hd
  refine ⟨rfl, rfl, rfl, Nat.le_refl _, rfl, fun _ => ?_⟩
  simp only
  omega
theorem gone (h : Pow n i true o d) : Pow n (i + 1) true o d := ⟨h.n3, h.ep, h.q, by have := h.oi; omega, h.dead, fun e => by cases e⟩
theorem actNo (h : Pow n i false o d) (hn : ¬ (i : Int) + 1 = n) : d.act.dead = false ∧ ((n ≤ 0 ∧ d.act.armed = 0) ∨ (((i + 1 : Nat) : Int) < n ∧ d.act.armed = n - ((i + 1 : Nat) : Int))) := by
  unfold D.act
  rcases h.on rfl with ⟨h1, h2⟩ | ⟨h1, h2⟩
  · rw [if_pos h2]
    exact ⟨h.dead, .inl ⟨h1, h2⟩⟩
  · rw [if_neg (by omega)]
    refine ⟨by simp; omega, .inr ⟨by omega, by simp only; omega⟩⟩
theorem actYes (h : Pow n i false o d) (hn : (i : Int) + 1 = n) : d.act.dead = true := by
  have := h.one.2 hn
  unfold D.act
  rw [if_neg (by omega)]
  simp [this]
theorem write (h : Pow n i false o d) (page : Nat) (data : List UInt8) : Pow n (i + 1) (decide ((i : Int) + 1 = n)) (o + 1) (d.write page data) := by
  have h' : Pow n i false (o + 1 - 1) { d with writes := wrap64 (d.writes + 1) } := ⟨h.n3, h.ep, h.q, h.oi, h.dead, h.on⟩
  obtain ⟨e, he⟩ : ∃ e : D, e = { d with q := d.q ++ [(page, data)], writes := wrap64 (d.writes + 1) } := ⟨_, rfl⟩
  have hw : d.write page data = e.act := by rw [he]; rfl
  have ha : e.armed = d.armed := by rw [he]
  have hd : e.dead = d.dead := by rw [he]
  rw [hw]
  refine ⟨by rw [D.act_n, he]; exact h.n3, by rw [D.act_epoch, he]; exact h.ep, by rw [D.act_q, he]; simp [h.q], by have := h.oi; omega, ?_, ?_⟩
  · by_cases hn : (i : Int) + 1 = n
    · have h1 := h.one.2 hn
      unfold D.act
      rw [if_neg (by omega)]
      simp [hn, ha, h1]
    · have h1 : ¬ d.armed = 1 := fun e => hn (h.one.1 e)
      unfold D.act
      split
      · rw [hd, h.dead]; simp [hn]
      · simp [hn, ha, h1]
  · intro hg
    have hn : ¬ (i : Int) + 1 = n := by simpa using hg
    unfold D.act
    rcases h.on rfl with ⟨h1, h2⟩ | ⟨h1, h2⟩
    · rw [if_pos (by omega)]
      exact .inl ⟨h1, by omega⟩
    · rw [if_neg (by omega)]
      refine .inr ⟨by omega, by simp only; omega⟩
theorem sync (h : Pow n i false o d) (hn : ¬ (i : Int) + 1 = n) : Pow n (i + 1) false 0 d.sync := by
  obtain ⟨h1, h2⟩ := h.actNo hn
  exact ⟨(D.act_n d).trans h.n3, (D.act_epoch d).trans h.ep, rfl, by omega, h1, fun _ => h2⟩
theorem syncGone (h : Pow n i false o d) (hn : (i : Int) + 1 = n) : Pow n (i + 1) true o d.act :=
  ⟨(D.act_n d).trans h.n3, (D.act_epoch d).trans h.ep, (congrArg List.length (D.act_q d)).trans h.q, by have := h.oi; omega, h.actYes hn, fun e => by cases e⟩
end Pow
end Go.Proofs.Ytbjffjplpnnhoaa
