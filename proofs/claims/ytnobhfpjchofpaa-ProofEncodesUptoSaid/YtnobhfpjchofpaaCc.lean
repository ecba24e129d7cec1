/-
  Layer 12's law: the walk of well; proofs in memory.
-/
import Derived.Test.YtnobhfpjchofpaaCb
namespace Go.Proofs.Ytnobhfpjchofpaa
set_option linter.unusedVariables false
set_option linter.unusedSimpArgs false
open Go.RowKit

theorem SumsAt.form {w : World} {v : Value} {l : List (List UInt8)} (h : SumsAt w v l) : ∃ a c, v = .slice a l.length c ∧ l.length ≤ c ∧ c ≤ maxLen := by
  rcases h with ⟨rfl, a, c, rfl, hc⟩ | ⟨g, o, cap, rfl, h1, h2, _⟩
  · exact ⟨a, c, rfl, Nat.zero_le _, hc⟩
  · exact ⟨_, _, rfl, h1, h2⟩
theorem SumsAt.at {w : World} {a : Option Addr} {n c : Nat} {l : List (List UInt8)} (h : SumsAt w (.slice a n c) l) (hn : 0 < l.length) : ∃ g o, a = some ⟨g, o, none⟩ ∧ g < w.heap.size ∧ w.rangeAt g o (sumCells l) := by
  rcases h with ⟨h0, _⟩ | ⟨g, o, cap, hv, _, _, h3, h4⟩
  · subst h0; simp at hn
  · injection hv with e _ _
    exact ⟨g, o, e, h3, h4⟩
theorem SumsAt.of_heap {w w' : World} {v : Value} {l : List (List UInt8)} (h : SumsAt w v l) (hs : w.heap.size ≤ w'.heap.size) (hd : ∀ k, v.elemBlock = some k → k < w.heap.size → w'.heap[k]? = w.heap[k]?) : SumsAt w' v l := by
  rcases h with h | ⟨g, o, cap, rfl, h1, h2, h3, h4⟩
  · exact .inl h
  · match l with
    | [] => exact .inl ⟨rfl, _, _, rfl, h2⟩
    | x :: l => exact .inr ⟨g, o, cap, rfl, h1, h2, Nat.lt_of_lt_of_le h3 hs, rangeAt_of_heap h4 (hd g rfl h3)⟩
theorem SumsAt.keeps {F : List Nat} {w w' : World} {v : Value} {l : List (List UInt8)} (h : SumsAt w v l) (hk : Keeps F w w') (hd : ∀ k, v.elemBlock = some k → k ∉ F) : SumsAt w' v l :=
  h.of_heap hk.size (fun k hk' hlt => hk.block k hlt (hd k hk'))
theorem SumsAt.below {n : Nat} {w w' : World} {v : Value} {l : List (List UInt8)} (h : SumsAt w v l) (hk : Below n w w') (hd : ∀ k, v.elemBlock = some k → k < n) : SumsAt w' v l :=
  h.of_heap hk.size (fun k hk' _ => hk.block k (hd k hk'))
theorem sum_at {l : List (List UInt8)} (hw : ∀ s ∈ l, s.length = 32) {k : Nat} (hk : k < l.length) : ∃ xs zs, sumCells l = xs ++ l[k].map B ++ zs ∧ xs.length = k * 32 := by
  have e : l = l.take k ++ l[k] :: l.drop (k + 1) := by simp
  have e2 := congrArg sumCells e
  simp only [sumCells, List.flatMap_append, List.flatMap_cons] at e2
  refine ⟨sumCells (l.take k), sumCells (l.drop (k + 1)), by unfold sumCells; rw [List.append_assoc]; exact e2, ?_⟩
  have : ∀ r : List (List UInt8), (∀ s ∈ r, s.length = 32) → (sumCells r).length = r.length * 32 := by
    intro r
    induction r with
    | nil => simp [sumCells]
    | cons x r ih =>
      intro h
      have h1 := ih (fun p hp => h p (by simp [hp]))
      have h2 := h x (by simp)
      simp only [sumCells, List.flatMap_cons, List.length_append, List.length_cons, List.length_map] at h1 ⊢
      omega
  rw [this _ (fun p hp => hw p (List.mem_of_mem_take hp))]
  simp
  omega
theorem range_part {w : World} {g o : Nat} {xs ys zs : List Value} (h : w.rangeAt g o (xs ++ ys ++ zs)) : w.rangeAt g (o + xs.length) ys := fun j v hv => by
  rw [Nat.add_assoc]
  refine h (xs.length + j) v ?_
  have hj := (List.getElem?_eq_some_iff.1 hv).1
  rw [List.getElem?_append_left (by simp; omega), List.getElem?_append_right (by omega)]
  simpa using hv
theorem SumsAt.row {w w' : World} {g o : Nat} {l : List (List UInt8)} (h : w.rangeAt g o (sumCells l)) (hw : ∀ s ∈ l, s.length = 32) {k : Nat} (hk : k < l.length) (hb : w'.heap[g]? = w.heap[g]?) : w'.rangeAt g (o + k * 32) (l[k].map B) := by
  obtain ⟨xs, zs, e, hl⟩ := sum_at hw hk
  rw [← hl]
  rw [e] at h
  exact rangeAt_of_heap (range_part h) hb

/-- v is a proof that reads as p. -/
def PfIn (w : World) (v : Value) (p : Pf) : Prop := ∃ vv sv, v = .agg (pfCells p vv sv).toArray ∧ BytesAt w vv p.val ∧ SumsAt w sv p.sums ∧ p.ok
theorem PfIn.keeps {w w' : World} {v : Value} {p : Pf} (h : PfIn w v p) (hk : Keeps [] w w') : PfIn w' v p := by
  obtain ⟨vv, sv, rfl, h1, h2, h3⟩ := h
  exact ⟨vv, sv, rfl, h1.keeps hk (by simp), h2.keeps hk (by simp), h3⟩
theorem PfIn.okp {w : World} {v : Value} {p : Pf} (h : PfIn w v p) : p.ok := by obtain ⟨_, _, _, _, _, h⟩ := h; exact h
theorem size_proof : (Try.prog.info? 30).map (·.size) = some 35 := by kernel_rfl
theorem pf_length {p : Pf} (h : p.bits.length = 32) (vv sv : Value) : (pfCells p vv sv).length = 35 := by simp [pfCells, h]
theorem size_pf {p : Pf} (h : p.bits.length = 32) (vv sv : Value) : (Try.prog.info? 30).map (·.size) = some (pfCells p vv sv).length := by rw [size_proof, pf_length h]

/-- Is it well formed? -/
def Pf.well (p : Pf) : Bool := (p.found || p.val.length == 0) && decide (p.val.length ≤ 128) && p.sums.length == onesOf p.bits

set_option maxRecDepth 100000 in
theorem well_any {w : World} {v : Value} {p : Pf} (hp : PfIn w v p) :
    Calls Try.prog 12 #[v] w fun e w' => e = .returned (.bool p.well) ∧ Keeps [] w w' := by
  obtain ⟨vv, sv, rfl, hv, hs, hb, _⟩ := hp
  obtain ⟨a1, c1, rfl, hc1, hm1⟩ := hv.form
  obtain ⟨a2, c2, rfl, hc2, hm2⟩ := hs.form
  unfold maxLen at hm1 hm2
  have hcnt := cntBits_ones p.bits 32 (by omega)
  rw [List.take_of_length_le (by omega)] at hcnt
  obtain ⟨C, hC⟩ : ∃ C, C = pfCells p (.slice a1 p.val.length c1) (.slice a2 p.sums.length c2) := ⟨_, rfl⟩
  have hcB := fun (wx : World) (h : wx.heap[w.heap.size]? = some (.cells C.toArray 30 (0, 0))) => pf_cells (hC ▸ h) hb
  have hbit := fun (wx : World) (h : Nat) (hh : h < 256) (b : Bool) (hx : bitAt p.bits h = b) => bit_any (w := wx) (p := p) (.slice a1 p.val.length c1) (.slice a2 p.sums.length c2) hb h hh hx
  have hsz := size_pf hb (.slice a1 p.val.length c1) (.slice a2 p.sums.length c2)
  rw [← hC] at hbit hsz ⊢
  have HC := Lib.hid hcB
  have HBIT := Lib.hid hbit
  have HS := Lib.hid hsz
  have HCNT := Lib.hid hcnt
  have HB := Lib.hid hb
  obtain ⟨fd, hfd⟩ : ∃ fd, fd = p.found := ⟨_, rfl⟩
  rw [← hfd] at HC
  have HFD := Lib.hid hfd
  clear hcB hbit hC hsz hcnt hb hv hs hfd
  go_enter Try.func12, Try.ntmps12
  go_wp2_with fail
  go_loopw [3, 4] (fun s i wr => ∃ k m : Nat, k ≤ 256 ∧ i = .int .i64 k ∧ m = cntBits p.bits k ∧ m ≤ k ∧ s = .int .i64 m ∧ wr.heap[w.heap.size]? = some (.cells C.toArray 30 (0, 0)) ∧ Keeps [] w wr) (fun _ i _ => 256 - (intOf i).toNat)
  case atStart => exact ⟨0, 0, Nat.zero_le _, rfl, rfl, Nat.le_refl _, rfl, heap_new_at rfl, (Keeps.refl _ _).alloc _⟩
  case round =>
    obtain ⟨k, m, hk, rfl, hm, hmk, rfl, hbox, hkr⟩ := hrel
    have HM := Lib.hid hm
    have HX := Lib.hid hbox
    have hb0 := lt_of_heap hbox
    have HR := Lib.hid (rangeAt_all hbox)
    clear hm hbox
    by_cases hlt : k < 256
    · have b0 : (0 : Int) ≤ (k : Int) := by omega
      have b1 : (k : Int) < 256 := by omega
      have b2 : (m : Int) ≤ (k : Int) := by omega
      obtain ⟨b, hb⟩ : ∃ b, bitAt p.bits k = b := ⟨_, rfl⟩
      have hnext := cntBits_succ p.bits k
      rw [hb, ← HM.out] at hnext
      have HN := Lib.hid hnext
      have cB := Lib.hid (HBIT.out wr k hlt b hb)
      clear hb hnext
      go_wp2_with (refine wpList_load_mid rfl 30 (.tmp 1) rfl w.heap.size 0 (by rfl) C _ HR.out Try.underlying30 rfl HS.out ?_)
      refine cB.out.mono ?_
      rintro e w1 ⟨rfl, hk1⟩
      have hkr1 := hkr.trans (G := []) hk1 (by simp)
      have hbox1 := (hk1.block _ hb0 (by simp)).trans HX.out
      have HX1 := Lib.hid hbox1
      clear hbox1
      cases b
      · go_wp2_with fail
        go_roundw
        case rel => exact ⟨k + 1, m, by omega, by go_num, by rw [HN.out]; rfl, by omega, rfl, HX1.out, hkr1⟩
        case measure => simp [intOf]; omega
      · go_wp2_with fail
        go_roundw
        case rel => exact ⟨k + 1, m + 1, by omega, by go_num, by rw [HN.out]; rfl, by omega, by go_num, HX1.out, hkr1⟩
        case measure => simp [intOf]; omega
    · have e : k = 256 := by omega
      subst e
      obtain ⟨e0, e1, e34⟩ := HC.out wr HX.out
      have hmo : m = onesOf p.bits := HM.out.trans HCNT.out
      have HMO := Lib.hid hmo
      clear hmo
      have key : ∀ b0 b1 b2 : Bool, ((p.val.length : Int) == 0) = b0 → decide ((p.val.length : Int) ≤ 128) = b1 → ((p.sums.length : Int) == (m : Int)) = b2 → p.well = ((fd || b0) && b1 && b2) := by
        rintro b0 b1 b2 rfl rfl rfl
        unfold Pf.well
        rw [HFD.out, HMO.out]
        congr 1
        · congr 1
          · congr 1
            rw [Bool.eq_iff_iff]; simp
          · rw [Bool.eq_iff_iff]; simp
            omega
        · rw [Bool.eq_iff_iff]; simp
          omega
      have KEY := Lib.hid key
      clear key
      obtain ⟨b0, h0⟩ : ∃ b0, ((p.val.length : Int) == 0) = b0 := ⟨_, rfl⟩
      obtain ⟨b1, h1⟩ : ∃ b1, decide ((p.val.length : Int) ≤ 128) = b1 := ⟨_, rfl⟩
      obtain ⟨b2, h2⟩ : ∃ b2, ((p.sums.length : Int) == (m : Int)) = b2 := ⟨_, rfl⟩
      have K := Lib.hid (KEY.out b0 b1 b2 h0 h1 h2)
      cases fd <;> cases b0 <;> cases b1 <;> cases b2 <;> (go_wp2_with fail) <;> go_ret <;> exact ⟨by rw [K.out]; rfl, hkr⟩
end Go.Proofs.Ytnobhfpjchofpaa
