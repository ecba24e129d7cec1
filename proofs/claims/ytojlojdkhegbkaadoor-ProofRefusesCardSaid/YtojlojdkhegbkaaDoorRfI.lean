/-
  Lemmas of a claim, bundle I: XFrC XShC XShD XFiA XFiB XFiC XFiD XFiE XFiF XStA XStB XStC XStD XFiP XPrA.
-/
import Derived.Lib.BufferWrite
import Derived.Test.YtojlojdkhegbkaaDoorRfF
import Derived.Test.YtojlojdkhegbkaaDoorRfC
import Derived.Test.YtojlojdkhegbkaaDoorRfH
import Derived.Test.YtojlojdkhegbkaaDoorRfB
import Derived.Test.YtojlojdkhegbkaaDoorRfG
/-
  Package frame: PackSuper.
-/
namespace Go.Proofs.YtojlojdkhegbkaaDoor
set_option linter.unusedVariables false
set_option linter.unusedSimpArgs false
open Go.RowKit

theorem run_copy_letters {w : World} {g : Nat} {ty : TypeId} {l : List UInt8} (h : Blk w g ty l) (n c : Nat) (hl : 4 ≤ l.length) (hn : 4 ≤ n) (t : TypeId) :
    (Builtin.copy_ #[25, 9] t #[.slice (some ⟨g, 0, none⟩) n c, .string ⟨#[76, 68, 71, 49]⟩]).run Tryd.prog w = .ok (.int .i64 4) (w.setRow g ((over l 0 [76, 68, 71, 49]).map B).toArray) := by
  have := Lib.run_copy_row_string (P := Tryd.prog) w 25 9 t 5 g 0 n c ⟨#[76, 68, 71, 49]⟩ _ ty Tryd.underlying25 (by kernel_rfl) h hn (by show 0 + 4 ≤ _; simp; exact hl)
  have e : (l.map B).toArray.toList.take 0 ++ Lib.byteCells [76, 68, 71, 49] ++ (l.map B).toArray.toList.drop (0 + 4) = (over l 0 [76, 68, 71, 49]).map B := by simp [over, Lib.byteCells, B]
  rw [← e]
  exact this
theorem Blk.setRow {w : World} {g : Nat} {ty : TypeId} {l : List UInt8} (h : Blk w g ty l) (l' : List UInt8) : Blk (w.setRow g (l'.map B).toArray) g ty l' := setRow_heap w g _ _ _ _ h
theorem Keeps.setRow {F : List Nat} {a w : World} (h : Keeps F a w) {g : Nat} (hp : g ∈ F ∨ a.heap.size ≤ g) (cs : Array Value) : Keeps F a (w.setRow g cs) :=
  ⟨h.os, h.tape, h.output, by simpa using h.size, fun k hk hn => (setRow_other w g k _ (fun e => by subst e; exact hp.elim hn (fun hle => by omega))).trans (h.block k hk hn)⟩
theorem run_copy_blk {W : World} {g o n m c1 c2 : Nat} {a : Option Addr} {t : TypeId} {img l : List UInt8} (hp : Blk W g t img) (hs : BytesAt W (.slice a n c2) l) (h0 : 0 < n) (hl : l.length = n) (hm : n ≤ m) (ho : o + n ≤ img.length) (ty : TypeId) :
    (Builtin.copy_ #[25, 25] ty #[.slice (some ⟨g, o, none⟩) m c1, .slice a n c2]).run Tryd.prog W = .ok (.int .i64 n) (W.setRow g ((over img o l).map B).toArray) := by
  subst hl
  obtain ⟨go, so, rfl, _, hr⟩ := hs.at h0
  have := run_copy_row (P := Tryd.prog) W 25 25 ty 5 g o m c1 ⟨go, so, none⟩ l.length c2 (img.map B).toArray t (l.map B) Tryd.underlying25 (by kernel_rfl) hp (by rw [List.length_map]; exact (Nat.min_eq_left hm).symm)
    (fun j v hv => by rw [Addr.add_mid]; exact hr j v hv) (by simp; omega) (B_one l)
  rw [this]
  simp [goInt, over]
theorem blk_all {w : World} {g : Nat} {t : TypeId} {l : List UInt8} (h : Blk w g t l) {n : Nat} (hn : l.length = n) (c : Nat) (hc : n ≤ c) (hm : c ≤ maxLen) : BytesAt w (.slice (some ⟨g, 0, none⟩) l.length c) l := by
  refine .inr ⟨g, 0, c, rfl, by omega, hm, h.lt, fun j u hj => ?_⟩
  rw [cell_of_row w g _ _ _ _ h, Nat.zero_add]
  simpa using hj
theorem make_bytes (w : World) (m : Nat) (hm : m ≤ 33554432) :
    (Instr.makeSlice 25 (.int .i64 m) (.int .i64 m)).run Tryd.prog w = .ok (.slice (some ⟨w.heap.size, 0, none⟩) m m) (w.alloc (.cells ((List.replicate m (0 : UInt8)).map B).toArray 5 (0, 0))) := by
  obtain ⟨i0, hi, hz0, hz1, hz2⟩ := info_parts info_u8
  have hmk := run_make (P := Tryd.prog) w 25 5 i0 _ Tryd.underlying25 hi hz0 .i64 .i64 (m : Int) (m : Int) (by omega) (by omega) (by rw [hz2]; omega) (by omega)
  have hz : madeCells (Value.int .u8 0).cells (Int.toNat (m : Int) * i0.size) = (((List.replicate m (0 : UInt8))).map B).toArray := by
    rw [hz1, show (Value.int .u8 0).cells = Array.replicate 1 (.int .u8 0) from rfl, madeCells_same 1 _ _ (by omega)]
    simp only [List.map_replicate, Nat.mul_one, Int.toNat_natCast]
    rfl
  rw [hz] at hmk
  simp only [Int.toNat_natCast] at hmk
  exact hmk
theorem make_page (w : World) : ∃ w', (Instr.makeSlice 25 (.int .i64 256) (.int .i64 256)).run Tryd.prog w = .ok (.slice (some ⟨w.heap.size, 0, none⟩) 256 256) w' ∧ Blk w' w.heap.size 5 (List.replicate 256 (0 : UInt8)) ∧ Keeps [] w w' :=
  ⟨_, make_bytes w 256 (by omega), heap_new_at rfl, (Keeps.refl _ _).alloc _⟩
set_option maxRecDepth 100000 in
set_option maxHeartbeats 800000 in
theorem packSuper_any {w : World} {s : Sup} (hs : s.valid = true) :
    Calls Tryd.prog 59 #[supV s] w fun e w' => ∃ g, e = .returned (.tuple #[.slice (some ⟨g, 0, none⟩) 256 256, .int .i64 0]) ∧ Blk w' g 5 (supL s) ∧ w.heap.size ≤ g ∧ Keeps [] w w' := by
  obtain ⟨g, hg⟩ : ∃ g, g = w.heap.size := ⟨_, rfl⟩
  have CV : ∀ w', Hid (Calls Tryd.prog 74 #[supV s] w' fun e w'' => e = .returned (.bool true) ∧ Keeps [] w' w'') := fun w' => Lib.hid (hs ▸ valid_any s)
  have HS := Lib.hid hs
  clear hs
  obtain ⟨W, G, M, H, P⟩ := s
  unfold supV at CV ⊢
  dsimp only at CV ⊢
  have hvs := HS.out
  unfold Sup.valid at hvs
  simp only [Bool.and_eq_true, Bool.or_eq_true, decide_eq_true_eq] at hvs
  obtain ⟨⟨⟨⟨⟨⟨⟨⟨b1, b2⟩, b3⟩, b4⟩, b5⟩, b6⟩, b7⟩, b8⟩, b9⟩ := hvs
  obtain ⟨W, rfl⟩ := Int.eq_ofNat_of_zero_le (show 0 ≤ W by omega)
  obtain ⟨G, rfl⟩ := Int.eq_ofNat_of_zero_le (show 0 ≤ G by omega)
  obtain ⟨M, rfl⟩ := Int.eq_ofNat_of_zero_le (show 0 ≤ M by omega)
  obtain ⟨H, rfl⟩ := Int.eq_ofNat_of_zero_le (show 0 ≤ H by omega)
  obtain ⟨P, rfl⟩ := Int.eq_ofNat_of_zero_le (show 0 ≤ P by omega)
  have n1 : W ≤ 32 := by omega
  have n2 : G ≤ 1099511627776 := by omega
  have n3 : P ≤ 4096 := by omega
  have n4 : M ≤ P := by omega
  have n5 : H < 4096 := by omega
  clear b1 b2 b3 b4 b5 b6 b7 b8 b9
  have w0 : (W : Int) % 256 = (W : Int) := by omega
  obtain ⟨w1, hw1⟩ : ∃ w1, w1 = w.alloc (.cells #[.int .i64 W, .int .i64 G, .int .i64 M, .int .i64 H, .int .i64 P] 47 (0, 0)) := ⟨_, rfl⟩
  have hk1 : Keeps [] w w1 := by rw [hw1]; exact (Keeps.refl _ _).alloc _
  have hbk : w1.heap[g]? = some (.cells #[.int .i64 W, .int .i64 G, .int .i64 M, .int .i64 H, .int .i64 P] 47 (0, 0)) := by rw [hw1]; exact heap_new_at hg
  have HK := Lib.hid hk1
  have HW := Lib.hid hw1
  have HG := Lib.hid hg
  have hfield : ∀ wx, Keeps [] w1 wx → wx.cell? ⟨g, 0, none⟩ = some (.int .i64 W) ∧ wx.cell? ⟨g, 1, none⟩ = some (.int .i64 G) ∧ wx.cell? ⟨g, 2, none⟩ = some (.int .i64 M) ∧ wx.cell? ⟨g, 3, none⟩ = some (.int .i64 H) ∧ wx.cell? ⟨g, 4, none⟩ = some (.int .i64 P) := fun wx hk => by
    have h := (hk.block g (lt_of_heap hbk) (by simp)).trans hbk
    refine ⟨?_, ?_, ?_, ?_, ?_⟩ <;> rw [cell_of_row wx g _ _ _ _ h] <;> rfl
  have HF := Lib.hid hfield
  obtain ⟨e0, e1, e2, e3, e4⟩ := hfield w1 (Keeps.refl _ _)
  clear hk1 hw1 hg hbk hfield
  go_enter Tryd.func59, Tryd.ntmps59
  go_upto_region 1 with fail
  rw [← HW.out, ← HG.out]
  go_upto_region 3 with (first | (go_at_call 74; refine (CV _).out.mono ?_; rintro e w2 ⟨rfl, hk2⟩))
  clear e0 e1 e2 e3 e4 CV
  have HK2 := Lib.hid hk2
  obtain ⟨g3, hg3⟩ : ∃ g3, g3 = w2.heap.size := ⟨_, rfl⟩
  obtain ⟨w3, hw3⟩ : ∃ w3, w3 = w2.alloc (.cells ((List.replicate 60 (0 : UInt8)).map B).toArray 151 (0, 0)) := ⟨_, rfl⟩
  have hb3 : Blk w3 g3 151 (List.replicate 60 (0 : UInt8)) := by rw [hw3]; exact heap_new_at hg3
  have hk3 : Keeps [] w1 w3 := hk2.trans (G := []) (by rw [hw3]; exact (Keeps.refl _ _).alloc _) (by simp)
  have HG3 := Lib.hid hg3
  have HW3 := Lib.hid hw3
  clear hk2 hg3 hw3
  have hw3e : w2.alloc (.cells #[.int .u8 0, .int .u8 0, .int .u8 0, .int .u8 0, .int .u8 0, .int .u8 0, .int .u8 0, .int .u8 0, .int .u8 0, .int .u8 0, .int .u8 0, .int .u8 0, .int .u8 0, .int .u8 0, .int .u8 0, .int .u8 0, .int .u8 0, .int .u8 0, .int .u8 0, .int .u8 0, .int .u8 0, .int .u8 0, .int .u8 0, .int .u8 0, .int .u8 0, .int .u8 0, .int .u8 0, .int .u8 0, .int .u8 0, .int .u8 0, .int .u8 0, .int .u8 0, .int .u8 0, .int .u8 0, .int .u8 0, .int .u8 0, .int .u8 0, .int .u8 0, .int .u8 0, .int .u8 0, .int .u8 0, .int .u8 0, .int .u8 0, .int .u8 0, .int .u8 0, .int .u8 0, .int .u8 0, .int .u8 0, .int .u8 0, .int .u8 0, .int .u8 0, .int .u8 0, .int .u8 0, .int .u8 0, .int .u8 0, .int .u8 0, .int .u8 0, .int .u8 0, .int .u8 0, .int .u8 0] 151 (0, 0)) = w3 := HW3.out.symm
  have HW3E := Lib.hid hw3e
  have hcp := run_copy_letters hb3 60 60 (by simp) (by omega) 3
  have HCP := Lib.hid (run_builtin_copy hcp)
  have hb4 := hb3.setRow (over (List.replicate 60 (0 : UInt8)) 0 [76, 68, 71, 49])
  have hk4 := hk3.setRow (g := g3) (by have := HG3.out; have := HK.out.size; have := HK2.out.size; exact .inr (by omega)) ((over (List.replicate 60 (0 : UInt8)) 0 [76, 68, 71, 49]).map B).toArray
  clear hcp hw3e
  go_upto_region 4 with fail
  rw [HW3E.out, ← HG3.out]
  go_upto_region 5 with (first | (refine wl_builtin rfl .copy #[.tmp 9, .const (.string ⟨#[76, 68, 71, 49]⟩)] #[25, 9] rfl ?_; simp only [List.map_toArray, List.map_cons, List.map_nil]; refine ⟨_, _, HCP.out, ?_⟩; try simp only [Act.put, List.setIfInBounds_toArray, List.set_cons_zero, List.set_cons_succ, List.getElem_toArray, List.getElem_cons_zero, List.getElem_cons_succ]))
  obtain ⟨w4, hw4⟩ : ∃ w4, w4 = w3.setRow g3 ((over (List.replicate 60 (0 : UInt8)) 0 [76, 68, 71, 49]).map B).toArray := ⟨_, rfl⟩
  rw [← hw4] at hb4 hk4 ⊢
  have l4 : (over (List.replicate 60 (0 : UInt8)) 0 [76, 68, 71, 49]).length = 60 := by rw [over_length (by simp)]; simp
  obtain ⟨I4, hI4⟩ : ∃ I, I = over (List.replicate 60 (0 : UInt8)) 0 [76, 68, 71, 49] := ⟨_, rfl⟩
  rw [← hI4] at hb4 l4
  have HI4 := Lib.hid hI4
  obtain ⟨e0, e1, e2, e3, e4⟩ := HF.out w4 hk4
  obtain ⟨u4, hc4⟩ : ∃ u, w4.cell? ⟨g3, 4, none⟩ = some u := ⟨_, hb4.cell 4 (by omega)⟩
  have hf4 := hb4.free 4
  have HB4 := Lib.hid hb4
  have HK4 := Lib.hid hk4
  clear hw4 hI4 HCP HW3E HW3 hb3 hk3 hk4 hb4
  go_upto_region 6 with fail
  have g31 : w1.heap.size ≤ g3 := by have := HG3.out; have := HK2.out.size; omega
  obtain ⟨w5, hw5⟩ : ∃ w5, w5 = w4.setCell ⟨g3, 4, none⟩ (.int .u8 W) := ⟨_, rfl⟩
  have hb5 : Blk w5 g3 151 (I4.set 4 (UInt8.ofNat W)) := by
    have h := HB4.out.set 4 (UInt8.ofNat W)
    rw [show B (UInt8.ofNat W) = .int .u8 W by simp only [B, UInt8.toNat_ofNat']; rw [Nat.mod_eq_of_lt (by omega)]] at h
    rw [hw5]
    exact h
  have hk5 : Keeps [] w1 w5 := by rw [hw5]; exact HK4.out.setCell (.inr g31) _
  rw [← hw5]
  have l5 : (I4.set 4 (UInt8.ofNat W)).length = 60 := by rw [List.length_set]; exact l4
  obtain ⟨I5, hI5⟩ : ∃ I, I = I4.set 4 (UInt8.ofNat W) := ⟨_, rfl⟩
  rw [← hI5] at hb5 l5
  have HI5 := Lib.hid hI5
  have HB5 := Lib.hid hb5
  have HK5 := Lib.hid hk5
  have G31 := Lib.hid g31
  clear hw5 hI5 hb5 hk5 l4 hc4 hf4 HB4 HK4 e0 e1 e2 e3 e4 g31
  have CP6 := Lib.hid (put_any (w := w5.drew) 8 8 52 52 G (show Blk w5.drew g3 _ _ from HB5.out) (by omega) (by omega) (by omega) (by omega) (by omega))
  have HD6 := Lib.hid (HF.out w5.drew (HK5.out.drew)).2.1
  refine wp_region_held_drew (S := (fun w' => w'.cell? ⟨g, 1, none⟩ = some (.int .i64 G))) (by kernel_rfl) ?_ (fun hHeld => ?_)
  · exact HD6.out
  refine' wpAnyH_take (i := 0) (v := _) rfl (by kernel_rfl) (by kernel_rfl) (by kernel_rfl) (fun _ _ _ h => h) (Or.inl ⟨by rfl, ?_⟩) (by assumption) ?_
  rotate_left 1
  · (intro w0 hSw; (try dsimp only at hSw); go_split_ands; go_simp; (try with_reducible rfl))
  try simp only [Act.put, List.setIfInBounds_toArray, List.set_cons_zero, List.set_cons_succ, List.getElem_toArray, List.getElem_cons_zero, List.getElem_cons_succ]
  refine' wpAnyH_take (i := 1) (v := _) rfl (by kernel_rfl) (by kernel_rfl) (by kernel_rfl) (fun _ _ _ h => h) (Or.inl ⟨by rfl, ?_⟩) (by assumption) ?_
  rotate_left 1
  · (intro w0 hSw; (try dsimp only at hSw); go_split_ands; go_simp; (try with_reducible rfl))
  try simp only [Act.put, List.setIfInBounds_toArray, List.set_cons_zero, List.set_cons_succ, List.getElem_toArray, List.getElem_cons_zero, List.getElem_cons_succ]
  refine' wpAnyH_take (i := 2) (v := _) rfl (by kernel_rfl) (by kernel_rfl) (by kernel_rfl) (fun _ _ _ h => h) (Or.inl ⟨by rfl, ?_⟩) (by assumption) ?_
  rotate_left 1
  · (intro w0 hSw; (try dsimp only at hSw); go_split_ands; go_simp; (try with_reducible rfl))
  try simp only [Act.put, List.setIfInBounds_toArray, List.set_cons_zero, List.set_cons_succ, List.getElem_toArray, List.getElem_cons_zero, List.getElem_cons_succ]
  refine wpAnyH_ready (rs := [3]) (by kernel_rfl) (by simp) ?_
  refine AllReadyH.cons rfl (fun K hK => ?_) AllReadyH.nil
  go_simp
  refine CP6.out.mono ?_
  rintro e w6 ⟨rfl, hb6, hk6⟩
  have HK6 := Lib.hid (HK5.out.drew.trans (G := [g3]) hk6 (fun k hk => .inr (by simp at hk; subst hk; exact G31.out)))
  refine hK.out _ _ ?_ (fun hHeld => ?_)
  · exact (HF.out w6 HK6.out).2.1
  clear hK K
  try simp only [Act.put, List.setIfInBounds_toArray, List.set_cons_zero, List.set_cons_succ, List.getElem_toArray, List.getElem_cons_zero, List.getElem_cons_succ]
  refine wpAnyH_done (by kernel_rfl) ?_ _
  have l6 : (over I5 8 (leN 8 G)).length = 60 := by rw [over_length (by rw [leN_length]; omega)]; exact l5
  obtain ⟨I6, hI6⟩ : ∃ I, I = over I5 8 (leN 8 G) := ⟨_, rfl⟩
  rw [← hI6] at hb6 l6
  have HI6 := Lib.hid hI6
  have HB6 := Lib.hid hb6
  clear hI6 hb6 hk6 l5 CP6 HB5 HD6 hHeld
  go_upto_region 7 with fail
  have CP7 := Lib.hid (put_any (w := w6.drew) 16 4 44 44 M (show Blk w6.drew g3 _ _ from HB6.out) (by omega) (by omega) (by omega) (by omega) (by omega))
  have HD7 := Lib.hid (HF.out w6.drew (HK6.out.drew)).2.2.1
  refine wp_region_held_drew (S := (fun w' => w'.cell? ⟨g, 2, none⟩ = some (.int .i64 M))) (by kernel_rfl) ?_ (fun hHeld => ?_)
  · exact HD7.out
  refine' wpAnyH_take (i := 0) (v := _) rfl (by kernel_rfl) (by kernel_rfl) (by kernel_rfl) (fun _ _ _ h => h) (Or.inl ⟨by rfl, ?_⟩) (by assumption) ?_
  rotate_left 1
  · (intro w0 hSw; (try dsimp only at hSw); go_split_ands; go_simp; (try with_reducible rfl))
  try simp only [Act.put, List.setIfInBounds_toArray, List.set_cons_zero, List.set_cons_succ, List.getElem_toArray, List.getElem_cons_zero, List.getElem_cons_succ]
  refine' wpAnyH_take (i := 1) (v := _) rfl (by kernel_rfl) (by kernel_rfl) (by kernel_rfl) (fun _ _ _ h => h) (Or.inl ⟨by rfl, ?_⟩) (by assumption) ?_
  rotate_left 1
  · (intro w0 hSw; (try dsimp only at hSw); go_split_ands; go_simp; (try with_reducible rfl))
  try simp only [Act.put, List.setIfInBounds_toArray, List.set_cons_zero, List.set_cons_succ, List.getElem_toArray, List.getElem_cons_zero, List.getElem_cons_succ]
  refine' wpAnyH_take (i := 2) (v := _) rfl (by kernel_rfl) (by kernel_rfl) (by kernel_rfl) (fun _ _ _ h => h) (Or.inl ⟨by rfl, ?_⟩) (by assumption) ?_
  rotate_left 1
  · (intro w0 hSw; (try dsimp only at hSw); go_split_ands; go_simp; (try with_reducible rfl))
  try simp only [Act.put, List.setIfInBounds_toArray, List.set_cons_zero, List.set_cons_succ, List.getElem_toArray, List.getElem_cons_zero, List.getElem_cons_succ]
  refine wpAnyH_ready (rs := [3]) (by kernel_rfl) (by simp) ?_
  refine AllReadyH.cons rfl (fun K hK => ?_) AllReadyH.nil
  go_simp
  refine CP7.out.mono ?_
  rintro e w7 ⟨rfl, hb7, hk7⟩
  have HK7 := Lib.hid (HK6.out.drew.trans (G := [g3]) hk7 (fun k hk => .inr (by simp at hk; subst hk; exact G31.out)))
  refine hK.out _ _ ?_ (fun hHeld => ?_)
  · exact (HF.out w7 HK7.out).2.2.1
  clear hK K
  try simp only [Act.put, List.setIfInBounds_toArray, List.set_cons_zero, List.set_cons_succ, List.getElem_toArray, List.getElem_cons_zero, List.getElem_cons_succ]
  refine wpAnyH_done (by kernel_rfl) ?_ _
  have l7 : (over I6 16 (leN 4 M)).length = 60 := by rw [over_length (by rw [leN_length]; omega)]; exact l6
  obtain ⟨I7, hI7⟩ : ∃ I, I = over I6 16 (leN 4 M) := ⟨_, rfl⟩
  rw [← hI7] at hb7 l7
  have HI7 := Lib.hid hI7
  have HB7 := Lib.hid hb7
  clear hI7 hb7 hk7 l6 CP7 HB6 HD7 hHeld
  go_upto_region 8 with fail
  have CP8 := Lib.hid (put_any (w := w7.drew) 20 4 40 40 H (show Blk w7.drew g3 _ _ from HB7.out) (by omega) (by omega) (by omega) (by omega) (by omega))
  have HD8 := Lib.hid (HF.out w7.drew (HK7.out.drew)).2.2.2.1
  refine wp_region_held_drew (S := (fun w' => w'.cell? ⟨g, 3, none⟩ = some (.int .i64 H))) (by kernel_rfl) ?_ (fun hHeld => ?_)
  · exact HD8.out
  refine' wpAnyH_take (i := 0) (v := _) rfl (by kernel_rfl) (by kernel_rfl) (by kernel_rfl) (fun _ _ _ h => h) (Or.inl ⟨by rfl, ?_⟩) (by assumption) ?_
  rotate_left 1
  · (intro w0 hSw; (try dsimp only at hSw); go_split_ands; go_simp; (try with_reducible rfl))
  try simp only [Act.put, List.setIfInBounds_toArray, List.set_cons_zero, List.set_cons_succ, List.getElem_toArray, List.getElem_cons_zero, List.getElem_cons_succ]
  refine' wpAnyH_take (i := 1) (v := _) rfl (by kernel_rfl) (by kernel_rfl) (by kernel_rfl) (fun _ _ _ h => h) (Or.inl ⟨by rfl, ?_⟩) (by assumption) ?_
  rotate_left 1
  · (intro w0 hSw; (try dsimp only at hSw); go_split_ands; go_simp; (try with_reducible rfl))
  try simp only [Act.put, List.setIfInBounds_toArray, List.set_cons_zero, List.set_cons_succ, List.getElem_toArray, List.getElem_cons_zero, List.getElem_cons_succ]
  refine' wpAnyH_take (i := 2) (v := _) rfl (by kernel_rfl) (by kernel_rfl) (by kernel_rfl) (fun _ _ _ h => h) (Or.inl ⟨by rfl, ?_⟩) (by assumption) ?_
  rotate_left 1
  · (intro w0 hSw; (try dsimp only at hSw); go_split_ands; go_simp; (try with_reducible rfl))
  try simp only [Act.put, List.setIfInBounds_toArray, List.set_cons_zero, List.set_cons_succ, List.getElem_toArray, List.getElem_cons_zero, List.getElem_cons_succ]
  refine wpAnyH_ready (rs := [3]) (by kernel_rfl) (by simp) ?_
  refine AllReadyH.cons rfl (fun K hK => ?_) AllReadyH.nil
  go_simp
  refine CP8.out.mono ?_
  rintro e w8 ⟨rfl, hb8, hk8⟩
  have HK8 := Lib.hid (HK7.out.drew.trans (G := [g3]) hk8 (fun k hk => .inr (by simp at hk; subst hk; exact G31.out)))
  refine hK.out _ _ ?_ (fun hHeld => ?_)
  · exact (HF.out w8 HK8.out).2.2.2.1
  clear hK K
  try simp only [Act.put, List.setIfInBounds_toArray, List.set_cons_zero, List.set_cons_succ, List.getElem_toArray, List.getElem_cons_zero, List.getElem_cons_succ]
  refine wpAnyH_done (by kernel_rfl) ?_ _
  have l8 : (over I7 20 (leN 4 H)).length = 60 := by rw [over_length (by rw [leN_length]; omega)]; exact l7
  obtain ⟨I8, hI8⟩ : ∃ I, I = over I7 20 (leN 4 H) := ⟨_, rfl⟩
  rw [← hI8] at hb8 l8
  have HI8 := Lib.hid hI8
  have HB8 := Lib.hid hb8
  clear hI8 hb8 hk8 l7 CP8 HB7 HD8 hHeld
  go_upto_region 9 with fail
  have CP9 := Lib.hid (put_any (w := w8.drew) 24 4 36 36 P (show Blk w8.drew g3 _ _ from HB8.out) (by omega) (by omega) (by omega) (by omega) (by omega))
  have HD9 := Lib.hid (HF.out w8.drew (HK8.out.drew)).2.2.2.2
  refine wp_region_held_drew (S := (fun w' => w'.cell? ⟨g, 4, none⟩ = some (.int .i64 P))) (by kernel_rfl) ?_ (fun hHeld => ?_)
  · exact HD9.out
  refine' wpAnyH_take (i := 0) (v := _) rfl (by kernel_rfl) (by kernel_rfl) (by kernel_rfl) (fun _ _ _ h => h) (Or.inl ⟨by rfl, ?_⟩) (by assumption) ?_
  rotate_left 1
  · (intro w0 hSw; (try dsimp only at hSw); go_split_ands; go_simp; (try with_reducible rfl))
  try simp only [Act.put, List.setIfInBounds_toArray, List.set_cons_zero, List.set_cons_succ, List.getElem_toArray, List.getElem_cons_zero, List.getElem_cons_succ]
  refine' wpAnyH_take (i := 1) (v := _) rfl (by kernel_rfl) (by kernel_rfl) (by kernel_rfl) (fun _ _ _ h => h) (Or.inl ⟨by rfl, ?_⟩) (by assumption) ?_
  rotate_left 1
  · (intro w0 hSw; (try dsimp only at hSw); go_split_ands; go_simp; (try with_reducible rfl))
  try simp only [Act.put, List.setIfInBounds_toArray, List.set_cons_zero, List.set_cons_succ, List.getElem_toArray, List.getElem_cons_zero, List.getElem_cons_succ]
  refine' wpAnyH_take (i := 2) (v := _) rfl (by kernel_rfl) (by kernel_rfl) (by kernel_rfl) (fun _ _ _ h => h) (Or.inl ⟨by rfl, ?_⟩) (by assumption) ?_
  rotate_left 1
  · (intro w0 hSw; (try dsimp only at hSw); go_split_ands; go_simp; (try with_reducible rfl))
  try simp only [Act.put, List.setIfInBounds_toArray, List.set_cons_zero, List.set_cons_succ, List.getElem_toArray, List.getElem_cons_zero, List.getElem_cons_succ]
  refine wpAnyH_ready (rs := [3]) (by kernel_rfl) (by simp) ?_
  refine AllReadyH.cons rfl (fun K hK => ?_) AllReadyH.nil
  go_simp
  refine CP9.out.mono ?_
  rintro e w9 ⟨rfl, hb9, hk9⟩
  have HK9 := Lib.hid (HK8.out.drew.trans (G := [g3]) hk9 (fun k hk => .inr (by simp at hk; subst hk; exact G31.out)))
  refine hK.out _ _ ?_ (fun hHeld => ?_)
  · exact (HF.out w9 HK9.out).2.2.2.2
  clear hK K
  try simp only [Act.put, List.setIfInBounds_toArray, List.set_cons_zero, List.set_cons_succ, List.getElem_toArray, List.getElem_cons_zero, List.getElem_cons_succ]
  refine wpAnyH_done (by kernel_rfl) ?_ _
  have l9 : (over I8 24 (leN 4 P)).length = 60 := by rw [over_length (by rw [leN_length]; omega)]; exact l8
  obtain ⟨I9, hI9⟩ : ∃ I, I = over I8 24 (leN 4 P) := ⟨_, rfl⟩
  rw [← hI9] at hb9 l9
  have HI9 := Lib.hid hI9
  have HB9 := Lib.hid hb9
  clear hI9 hb9 hk9 l8 CP9 HB8 HD9 hHeld
  go_upto_region 10 with fail
  obtain ⟨w10, hmk, hb10, hk9⟩ := make_page w9
  obtain ⟨g10, hg10⟩ : ∃ g, g = w9.heap.size := ⟨_, rfl⟩
  rw [← hg10] at hmk hb10
  have HMK := Lib.hid hmk
  have HB10 := Lib.hid hb10
  have l256 : (List.replicate 256 (0 : UInt8)).length = 256 := List.length_replicate
  obtain ⟨Z, hZ⟩ : ∃ Z, Z = List.replicate 256 (0 : UInt8) := ⟨_, rfl⟩
  rw [← hZ] at l256 HB10
  have HZ := Lib.hid hZ
  rw [← hZ] at hb10
  clear hZ
  have hi9 := HB9.out.keeps hk9 (by simp)
  have cs := seal_any (blk_all hi9 l9 60 (by omega) (by simp [maxLen])) (by omega)
  rw [l9] at cs
  have CS := Lib.hid cs
  clear cs
  have HK10 := Lib.hid (HK9.out.trans (G := []) hk9 (by simp))
  have G10 := Lib.hid (show w1.heap.size ≤ g10 by rw [hg10]; exact HK9.out.size)
  clear hmk hg10 hb10 hk9 hi9
  go_upto_region 11 with (first | (refine wl_makeSlice rfl 25 (.const (.int .i64 256)) (.const (.int .i64 256)) rfl ?_; refine ⟨_, _, HMK.out, ?_⟩; try simp only [Act.put, List.setIfInBounds_toArray, List.set_cons_zero, List.set_cons_succ, List.getElem_toArray, List.getElem_cons_zero, List.getElem_cons_succ]))
  clear HMK
  go_upto_region 12 with (first | (go_at_call 76; refine CS.out.mono ?_; rintro e w11 ⟨a11, c11, rfl, ho11, hq11, hk11⟩) | (refine wl_builtin rfl .copy #[.tmp 32, .tmp 34] #[25, 25] rfl ?_; simp only [List.map_toArray, List.map_cons, List.map_nil]; refine ⟨_, _, run_builtin_copy (run_copy_blk (img := Z) (l := sealL I9) (HB10.out.keeps hk11 (by simp)) (ownB_bytes ho11) (by omega) (by rw [sealL_length, l9]) (by omega) (by omega) _), ?_⟩; try simp only [Act.put, List.setIfInBounds_toArray, List.set_cons_zero, List.set_cons_succ, List.getElem_toArray, List.getElem_cons_zero, List.getElem_cons_succ]))
  go_wp2_with fail
  go_ret2
  have hsl := sup_laid HI4.out HI5.out HI6.out HI7.out HI8.out HI9.out HZ.out
  have hb11 := (HB10.out.keeps hk11 (by simp)).setRow (over Z 0 (sealL I9))
  have hg1 : w.heap.size ≤ g10 := Nat.le_trans HK.out.size G10.out
  refine ⟨g10, rfl, ?_, hg1, ((HK.out.trans (G := []) HK10.out (by simp)).trans (G := []) hk11 (by simp)).setRow (.inr hg1) _⟩
  rw [← hsl]
  exact hb11
end Go.Proofs.YtojlojdkhegbkaaDoor

/-
  Package digest: a hasher as it stands behind a text.
-/
namespace Go.Proofs.YtojlojdkhegbkaaDoor
set_option linter.unusedVariables false
set_option linter.unusedSimpArgs false
open Go.RowKit

theorem shaBlocks_append (s : S8) (a b : List UInt8) : ∀ n, 64 * n ≤ a.length → shaBlocks s (a ++ b) n = shaBlocks s a n
  | 0, _ => rfl
  | n + 1, h => by
    simp only [shaBlocks]
    rw [shaBlocks_append s a b n (by omega), List.drop_append_of_le_length (by omega), List.take_append_of_le_length (by simp; omega)]
/-- The state behind a text's whole blocks, and the text's end that is no whole block. -/
def hState (m : List UInt8) : S8 := shaBlocks shaIV m (m.length / 64)
def hTail (m : List UInt8) : List UInt8 := m.drop (64 * (m.length / 64))
theorem hState_ok (m : List UInt8) : (hState m).ok := shaBlocks_ok shaIV_ok _ _
theorem hTail_length (m : List UInt8) : (hTail m).length = m.length % 64 := by simp only [hTail, List.length_drop]; omega
theorem hState_part {m l : List UInt8} (h : m.length % 64 + l.length < 64) : hState (m ++ l) = hState m ∧ hTail (m ++ l) = hTail m ++ l := by
  have e : (m ++ l).length / 64 = m.length / 64 := by rw [List.length_append]; omega
  refine ⟨?_, ?_⟩
  · unfold hState
    rw [e]
    exact shaBlocks_append _ _ _ _ (by omega)
  · unfold hTail
    rw [e, List.drop_append_of_le_length (by omega)]
theorem hState_full {m l : List UInt8} (h : m.length % 64 + l.length = 64) : hState (m ++ l) = shaBlock (hState m) (hTail m ++ l) ∧ hTail (m ++ l) = [] ∧ (m ++ l).length % 64 = 0 := by
  have e : (m ++ l).length / 64 = m.length / 64 + 1 := by rw [List.length_append]; omega
  have e2 : (m ++ l).length % 64 = 0 := by rw [List.length_append]; omega
  refine ⟨?_, ?_, e2⟩
  · unfold hState
    rw [e, shaBlocks, shaBlocks_append _ _ _ _ (by omega), List.drop_append_of_le_length (by omega)]
    rw [List.take_of_length_le]
    · rfl
    · rw [List.length_append, List.length_drop]; omega
  · exact List.eq_nil_of_length_eq_zero (by rw [hTail_length, e2])
theorem hState_nil : hState [] = shaIV := rfl
/-- A hasher's cells. -/
def hCells (s : S8) (r : List UInt8) (k t : Nat) : List Value := s.words.map W32 ++ (r.map B ++ [.int .i64 k, .int .u64 t])
structure HIn (w : World) (g : Nat) (s : S8) (r : List UInt8) (k t : Nat) : Prop where
  row : w.heap[g]? = some (.cells (hCells s r k t).toArray 126 (0, 0))
  len : r.length = 64
theorem HIn.lt {w : World} {g : Nat} {s : S8} {r : List UInt8} {k t : Nat} (h : HIn w g s r k t) : g < w.heap.size := lt_of_heap h.row
theorem HIn.free {w : World} {g : Nat} {s : S8} {r : List UInt8} {k t : Nat} (h : HIn w g s r k t) (i : Nat) : w.frozen? ⟨g, i, none⟩ = false := frozen_of_row w g i _ _ h.row
theorem HIn.keeps {w w' : World} {g : Nat} {s : S8} {r : List UInt8} {k t : Nat} (h : HIn w g s r k t) {F : List Nat} (hk : Keeps F w w') (hg : g ∉ F) : HIn w' g s r k t := ⟨(hk.block g h.lt hg).trans h.row, h.len⟩
theorem words_length (s : S8) : (s.words.map W32).length = 8 := rfl
theorem HIn.have_cell {w : World} {g : Nat} {s : S8} {r : List UInt8} {k t : Nat} (h : HIn w g s r k t) : w.cell? ⟨g, 72, none⟩ = some (.int .i64 k) := by
  rw [cell_of_row w g 72 _ _ _ h.row, hCells, List.getElem?_toArray, List.getElem?_append_right (by rw [words_length]; omega), List.getElem?_append_right (by rw [words_length, List.length_map, h.len]; omega), words_length, List.length_map, h.len]
  rfl
theorem HIn.taken_cell {w : World} {g : Nat} {s : S8} {r : List UInt8} {k t : Nat} (h : HIn w g s r k t) : w.cell? ⟨g, 73, none⟩ = some (.int .u64 t) := by
  rw [cell_of_row w g 73 _ _ _ h.row, hCells, List.getElem?_toArray, List.getElem?_append_right (by rw [words_length]; omega), List.getElem?_append_right (by rw [words_length, List.length_map, h.len]; omega), words_length, List.length_map, h.len]
  rfl
theorem HIn.set_have {w : World} {g : Nat} {s : S8} {r : List UInt8} {k t : Nat} (h : HIn w g s r k t) (k' : Nat) : HIn (w.setCell ⟨g, 72, none⟩ (.int .i64 k')) g s r k' t := by
  refine ⟨?_, h.len⟩
  rw [heap_setCell_same w g 72 _ _ _ h.row]
  simp only [hCells, List.setIfInBounds_toArray]
  rw [List.set_append_right _ _ (by rw [words_length]; omega), List.set_append_right _ _ (by rw [words_length, List.length_map, h.len]; omega), words_length, List.length_map, h.len]
  rfl
theorem HIn.set_taken {w : World} {g : Nat} {s : S8} {r : List UInt8} {k t : Nat} (h : HIn w g s r k t) (t' : Nat) : HIn (w.setCell ⟨g, 73, none⟩ (.int .u64 t')) g s r k t' := by
  refine ⟨?_, h.len⟩
  rw [heap_setCell_same w g 73 _ _ _ h.row]
  simp only [hCells, List.setIfInBounds_toArray]
  rw [List.set_append_right _ _ (by rw [words_length]; omega), List.set_append_right _ _ (by rw [words_length, List.length_map, h.len]; omega), words_length, List.length_map, h.len]
  rfl
/-- The bytes that wait. -/
theorem HIn.rest {w : World} {g : Nat} {s : S8} {r : List UInt8} {k t : Nat} (h : HIn w g s r k t) : w.rangeAt g 8 (r.map B) := by
  have := rangeAt_part (w := w) (b := g) (xs := s.words.map W32) (ys := r.map B) (zs := [.int .i64 k, .int .u64 t]) (t := 126) (fr := (0, 0)) (by rw [List.append_assoc]; exact h.row)
  exact this
/-- copy into the bytes that wait. -/
theorem HIn.copy {w : World} {g : Nat} {s : S8} {r : List UInt8} {k t : Nat} (h : HIn w g s r k t) {v : Value} {l : List UInt8} (hv : BytesAt w v l) (o n c : Nat) (hn : o + n = 64) (ty : TypeId) :
    ∃ w', (Builtin.copy_ #[25, 25] ty #[.slice (some ⟨g, 8 + o, none⟩) n c, v]).run Tryd.prog w = .ok (.int .i64 ((min l.length n : Nat) : Int)) w' ∧ HIn w' g s (over r o (l.take n)) k t ∧ Keeps [g] w w' := by
  rcases Nat.eq_zero_or_pos (min l.length n) with h0 | h0
  · obtain ⟨a, c2, rfl, _, _⟩ := hv.form
    have hr := run_copy_none (P := Tryd.prog) w 25 25 ty 5 (some ⟨g, 8 + o, none⟩) a n c l.length c2 Tryd.underlying25 (by kernel_rfl) h0
    refine ⟨w, by rw [h0]; exact hr, ?_, Keeps.refl _ _⟩
    have e : l.take n = [] := List.eq_nil_of_length_eq_zero (by rw [List.length_take]; omega)
    rw [e]
    have e2 : over r o [] = r := by simp [over]
    rw [e2]
    exact h
  · obtain ⟨a, c2, rfl, _, _⟩ := hv.form
    obtain ⟨go, so, rfl, _, hr⟩ := hv.at (by omega)
    have htl : (l.take n).length = min l.length n := by rw [List.length_take, Nat.min_comm]
    have hlen := h.len
    have := run_copy_row (P := Tryd.prog) w 25 25 ty 5 g (8 + o) n c ⟨go, so, none⟩ l.length c2 (hCells s r k t).toArray 126 ((l.take n).map B) Tryd.underlying25 (by kernel_rfl) h.row (by rw [List.length_map, htl])
      (fun j v hj => by
        rw [Addr.add_mid]
        refine hr j v ?_
        rw [List.map_take, List.getElem?_take] at hj
        split at hj
        · exact hj
        · cases hj)
      (by simp only [List.length_map, htl, hCells, List.size_toArray, List.length_append, List.length_cons, List.length_nil, h.len]; first | done | (have hw8 : s.words.length = 8 := rfl; omega)) (B_one _)
    refine ⟨_, by rw [this]; simp only [List.length_map, htl]; rfl, ⟨?_, ?_⟩, (Keeps.refl _ _).setRow (.inl (by simp)) _⟩
    · refine (setRow_heap w g _ _ _ _ h.row).trans ?_
      have e1 : (hCells s r k t).take (8 + o) = s.words.map W32 ++ (r.take o).map B := by
        unfold hCells
        rw [List.take_append, words_length, Nat.add_sub_cancel_left, List.take_of_length_le (by rw [words_length]; omega), List.take_append_of_le_length (by simp; omega), List.map_take]
      have e2 : (hCells s r k t).drop (8 + o + min l.length n) = (r.drop (o + (l.take n).length)).map B ++ [.int .i64 k, .int .u64 t] := by
        unfold hCells
        rw [← htl, Nat.add_assoc, List.drop_append, words_length, Nat.add_sub_cancel_left, List.drop_of_length_le (by rw [words_length]; omega), List.nil_append, List.drop_append_of_le_length (by simp only [List.length_map, htl]; omega), List.map_drop]
      rw [e1, e2]
      simp [hCells, over]
    · simp only [over, List.length_append, List.length_take, List.length_drop]
      omega
/-- A hasher that has taken the text m. -/
structure HashAt (w : World) (g : Nat) (m : List UInt8) : Prop where
  cells : ∃ r, HIn w g (hState m) r (m.length % 64) (m.length % 18446744073709551616) ∧ r.take (m.length % 64) = hTail m
theorem HashAt.keeps {w w' : World} {g : Nat} {m : List UInt8} (h : HashAt w g m) {F : List Nat} (hk : Keeps F w w') (hg : g ∉ F) : HashAt w' g m := by
  obtain ⟨r, h1, h2⟩ := h.cells
  exact ⟨r, h1.keeps hk hg, h2⟩
end Go.Proofs.YtojlojdkhegbkaaDoor

/-
  Package digest: Write. (Printed by gen_write.py.)
-/
namespace Go.Proofs.YtojlojdkhegbkaaDoor
set_option linter.unusedVariables false
set_option linter.unusedSimpArgs false
open Go.RowKit

def sliceLen : Value → Nat
  | .slice _ n _ => n
  | _ => 0
/-- What Write's loop holds: the text so far and what is left of the new piece. -/
structure WLoop (w0 w : World) (g t : Nat) (all : List UInt8) (v : Value) : Prop where
  ex : ∃ (m l : List UInt8) (a : Option Addr) (c : Nat), v = .slice a l.length c ∧ m ++ l = all ∧ m.length % 64 = 0 ∧ BytesAt w v l ∧ l.length ≤ c ∧ c ≤ maxLen ∧ (∀ k, v.elemBlock = some k → k ≠ g) ∧ (∃ r, HIn w g (hState m) r 0 t) ∧ Keeps [g] w0 w
theorem over_front {r l : List UInt8} (h : l.length ≤ r.length) : (over r 0 l).take l.length = l := by simp [over]
set_option maxRecDepth 100000 in
theorem run_rest_from (w : World) (g k : Nat) (hk : k ≤ 64) : (Instr.sliceAt 123 (.pointer (some ⟨g, 8, none⟩)) (some (.int .i64 k)) none none).run Tryd.prog w = .ok (.slice (if k = 64 then some ⟨g, 8, none⟩ else some ⟨g, 8 + k, none⟩) (64 - k) (64 - k)) w := by
  have h := run_sliceAt_array_l (P := Tryd.prog) w 123 ⟨g, 8, none⟩ Tryd.underlying123 .i64 k (by omega) (by show (k : Int) ≤ (64 : Nat); omega)
  rw [h]
  show Result.ok (slicedAt ⟨g, 8, none⟩ (Int.toNat k) 64 64 1) w = _
  simp only [slicedAt, Int.toNat_natCast, Nat.mul_one, Addr.add_mid]
  by_cases e : k = 64
  · subst e; rfl
  · rw [if_neg e, if_neg (fun h => e h.symm)]
theorem elem_block_some {g o n c k : Nat} (h : (Value.slice (some ⟨g, o, none⟩) n c).elemBlock = some k) : k = g := by
  cases n with
  | zero => simp [Value.elemBlock] at h
  | succ n => simp [Value.elemBlock] at h; exact h.symm
set_option maxRecDepth 100000 in
set_option maxHeartbeats 1600000 in
theorem write_zero {w : World} {g : Nat} {m l : List UInt8} {v : Value} (h : HashAt w g m) (h0 : m.length % 64 = 0) (hv : BytesAt w v l) (hvg : ∀ k, v.elemBlock = some k → k ≠ g) (ht : Tabs w) (hg1 : g ≠ 1) (hg2 : g ≠ 0) :
    Calls Tryd.prog 54 #[.pointer (some ⟨g, 0, none⟩), v] w fun e w' => e = .returned (.tuple #[]) ∧ HashAt w' g (m ++ l) ∧ Keeps [g] w w' := by
  obtain ⟨r, hI, hr⟩ := h.cells
  obtain ⟨a, c, rfl, hc1, hc2⟩ := hv.form
  have hc2' := hc2
  unfold maxLen at hc2'
  obtain ⟨T0, hT0⟩ : ∃ x, x = m.length % 18446744073709551616 := ⟨_, rfl⟩
  obtain ⟨T, hT⟩ : ∃ x, x = (m ++ l).length % 18446744073709551616 := ⟨_, rfl⟩
  rw [← hT0] at hI
  have u1 : IntKind.u64.wrap ((T0 : Int) + (l.length : Int)) = (T : Int) := by rw [hT, hT0, List.length_append]; simp only [IntKind.wrap, IntKind.bits, IntKind.signed]; simp
  rw [h0] at hI hr
  have c72 := hI.have_cell
  have c73 := hI.taken_cell
  have f73 := hI.free 73
  have HI := Lib.hid hI
  have HHT := Lib.hid hT
  have HV := Lib.hid hv
  have HTABS := Lib.hid ht
  have HVG := Lib.hid hvg
  have HG := Lib.hid (And.intro hg1 hg2)
  have HM := Lib.hid h0
  clear hI hT hT0 hv ht hvg hg1 hg2 h0 h hr
  go_enter Tryd.func54, Tryd.ntmps54
  go_wp2_with fail
  go_loopw [1] (fun v wr => WLoop w wr g T (m ++ l) v) (fun v _ => sliceLen v)
  case atStart =>
    have hk0 : Keeps [g] w (w.setCell ⟨g, 73, none⟩ (.int .u64 (T : Nat))) := (Keeps.refl _ _).setCell (.inl (by simp)) _
    exact ⟨m, l, a, c, rfl, rfl, HM.out, HV.out.keeps hk0 (fun k hk => by simpa using HVG.out k hk), hc1, hc2, HVG.out, ⟨r, HI.out.set_taken T⟩, hk0⟩
  case round =>
    obtain ⟨m1, l1, a1, c1, rfl, hal, hm1, hv1, hlc1, hc1, hvg1, ⟨r1, hI1⟩, hk1⟩ := hrel.ex
    have hc1' := hc1
    unfold maxLen at hc1'
    clear hrel
    by_cases hlt : 64 ≤ l1.length
    · obtain ⟨go, so, rfl, hgo, hrg⟩ := hv1.at (by omega)
      have b1 : decide ((64 : Int) ≤ (l1.length : Int)) = true := by simp; omega
      have hrg64 : wr.rangeAt go so ((l1.take 64).map B) := fun j v hj => by
        refine hrg j v ?_
        rw [List.map_take, List.getElem?_take] at hj
        split at hj
        · exact hj
        · cases hj
      have ht64 : (l1.take 64).length = 64 := by rw [List.length_take]; omega
      have hst := step_any (s := hState m1) (rest := r1.map B ++ [.int .i64 (0 : Nat), .int .u64 T]) hrg64 ht64 hgo (show 64 ≤ c1 by omega) (by omega) (hState_ok m1) hI1.row ((HTABS.out.keeps hk1 (by simp; exact Ne.symm HG.out.1) (by simp; exact Ne.symm HG.out.2))) HG.out.1
      obtain ⟨a2, c2, hrun2, hb2, hm2, hf2⟩ := sl_from hv1 hlt hlc1 hc1 (F := fun k => k ≠ g) hvg1
      have hfull := hState_full (m := m1) (l := l1.take 64) (by rw [hm1, ht64])
      have e0 : hTail m1 = [] := List.eq_nil_of_length_eq_zero (by rw [hTail_length, hm1])
      rw [e0, List.nil_append] at hfull
      have HST := Lib.hid hst
      have HRUN2 := Lib.hid hrun2
      have HB2 := Lib.hid hb2
      have HF2 := Lib.hid hf2
      have HFULL := Lib.hid hfull
      have HK1 := Lib.hid hk1
      have HI1 := Lib.hid hI1
      have HAL := Lib.hid hal
      have HVG1 := Lib.hid hvg1
      clear hst hrun2 hb2 hf2 hfull hk1 hI1 hal hvg1 hv1 hrg hrg64 e0
      go_upto_region 9 with (first | (refine wl_slice rfl 25 (.tmp 59) none (some (.const (.int .i64 64))) none rfl ?_; refine ⟨_, _, sl_run_head _ _ _ _ 64 (by omega), ?_⟩; try simp only [Act.put, List.setIfInBounds_toArray, List.set_cons_zero, List.set_cons_succ, List.getElem_toArray, List.getElem_cons_zero, List.getElem_cons_succ]) | (go_at_call 69; refine HST.out.mono ?_; rintro e w2 ⟨rfl, hrow2, hk2⟩))
      go_wp2_with (first | (refine wl_slice rfl 25 (.tmp 59) none (some (.const (.int .i64 64))) none rfl ?_; refine ⟨_, _, sl_run_head _ _ _ _ 64 (by omega), ?_⟩; try simp only [Act.put, List.setIfInBounds_toArray, List.set_cons_zero, List.set_cons_succ, List.getElem_toArray, List.getElem_cons_zero, List.getElem_cons_succ]) | (go_at_call 69; refine HST.out.mono ?_; rintro e w2 ⟨rfl, hrow2, hk2⟩) | (refine wl_slice rfl 25 (.tmp 62) (some (.const (.int .i64 64))) none none rfl ?_; refine ⟨_, _, HRUN2.out _, ?_⟩; try simp only [Act.put, List.setIfInBounds_toArray, List.set_cons_zero, List.set_cons_succ, List.getElem_toArray, List.getElem_cons_zero, List.getElem_cons_succ]))
      go_roundw
      case rel =>
        refine ⟨m1 ++ l1.take 64, l1.drop 64, a2, c2, rfl, ?_, HFULL.out.2.2, ?_, ?_, hm2, HF2.out, ⟨r1, ⟨?_, HI1.out.len⟩⟩, ?_⟩
        · rw [List.append_assoc, List.take_append_drop]; exact HAL.out
        · exact HB2.out.keeps hk2 (fun k hk => by simpa using HF2.out k hk)
        · exact (by obtain ⟨_, _, e, h, _⟩ := HB2.out.form; injection e with _ _ e3; rw [e3]; exact h)
        · rw [HFULL.out.1]; exact hrow2
        · exact HK1.out.trans (G := [g]) hk2 (fun j hj => .inl hj)
      case measure => simp [sliceLen]; omega
    · have b1 : decide ((64 : Int) ≤ (l1.length : Int)) = false := by simp; omega
      have hcp := hI1.copy hv1 0 64 64 rfl 3
      have htk : l1.take 64 = l1 := List.take_of_length_le (by omega)
      have hmn : min l1.length 64 = l1.length := by omega
      rw [htk, hmn] at hcp
      simp only [Nat.add_zero] at hcp
      obtain ⟨w3, hrun3, hI3, hk3⟩ := hcp
      have hpart := hState_part (m := m1) (l := l1) (by omega)
      have e0 : hTail m1 = [] := List.eq_nil_of_length_eq_zero (by rw [hTail_length, hm1])
      rw [e0, List.nil_append] at hpart
      have hlen1 : (m ++ l).length % 64 = l1.length := by rw [← hal, List.length_append]; omega
      have hHAT : HashAt (w3.setCell ⟨g, 72, none⟩ (.int .i64 (l1.length : Nat))) g (m ++ l) := by
        refine ⟨over r1 0 l1, ?_, ?_⟩
        · rw [hlen1, ← HHT.out, ← hal, hpart.1]
          exact hI3.set_have _
        · rw [hlen1, ← hal, hpart.2]
          exact over_front (by rw [hI1.len]; omega)
      have hKK : Keeps [g] w (w3.setCell ⟨g, 72, none⟩ (.int .i64 (l1.length : Nat))) := (hk1.trans (G := [g]) hk3 (fun j hj => .inl hj)).setCell (.inl (by simp)) _
      have f72 := hI3.free 72
      have c72 := hI3.have_cell
      have HHAT := Lib.hid hHAT
      have HKK := Lib.hid hKK
      have HRUN3 := Lib.hid (run_builtin_copy hrun3)
      clear hHAT hKK hrun3 hI3 hk3 hpart hlen1 hk1 hI1 hal hvg1 hv1 e0 htk hmn
      go_wp2_with (first | (refine wl_builtin rfl .copy #[.tmp 68, .tmp 69] #[25, 25] rfl ?_; simp only [List.map_toArray, List.map_cons, List.map_nil]; refine ⟨_, _, HRUN3.out, ?_⟩; try simp only [Act.put, List.setIfInBounds_toArray, List.set_cons_zero, List.set_cons_succ, List.getElem_toArray, List.getElem_cons_zero, List.getElem_cons_succ]))
      refine Go.Great.bodyPost_end0 rfl rfl ⟨rfl, ?_, ?_⟩
      · exact HHAT.out
      · exact HKK.out
set_option maxRecDepth 100000 in
set_option maxHeartbeats 1600000 in
theorem write_part {w : World} {g : Nat} {m l : List UInt8} {v : Value} (h : HashAt w g m) (hpos : 0 < m.length % 64) (hroom : m.length % 64 + l.length < 64) (hv : BytesAt w v l) (hvg : ∀ k, v.elemBlock = some k → k ≠ g) (ht : Tabs w) (hg1 : g ≠ 1) (hg2 : g ≠ 0) :
    Calls Tryd.prog 54 #[.pointer (some ⟨g, 0, none⟩), v] w fun e w' => e = .returned (.tuple #[]) ∧ HashAt w' g (m ++ l) ∧ Keeps [g] w w' := by
  obtain ⟨r, hI, hr⟩ := h.cells
  obtain ⟨a, c, rfl, hc1, hc2⟩ := hv.form
  have hc2' := hc2
  unfold maxLen at hc2'
  obtain ⟨T0, hT0⟩ : ∃ x, x = m.length % 18446744073709551616 := ⟨_, rfl⟩
  obtain ⟨T, hT⟩ : ∃ x, x = (m ++ l).length % 18446744073709551616 := ⟨_, rfl⟩
  rw [← hT0] at hI
  have u1 : IntKind.u64.wrap ((T0 : Int) + (l.length : Int)) = (T : Int) := by rw [hT, hT0, List.length_append]; simp only [IntKind.wrap, IntKind.bits, IntKind.signed]; simp
  obtain ⟨k, hk⟩ : ∃ x, x = m.length % 64 := ⟨_, rfl⟩
  have hk64 : k < 64 := by omega
  rw [← hk] at hI hr hpos hroom
  obtain ⟨wA, hwA⟩ : ∃ x, x = w.setCell ⟨g, 73, none⟩ (.int .u64 (T : Nat)) := ⟨_, rfl⟩
  have hkA : Keeps [g] w wA := by rw [hwA]; exact (Keeps.refl _ _).setCell (.inl (by simp)) _
  have hIA : HIn wA g (hState m) r k T := by rw [hwA]; exact hI.set_taken T
  have hvA : BytesAt wA (.slice a l.length c) l := hv.keeps hkA (fun k hk => by simpa using hvg k hk)
  have hID : HIn wA.drew g (hState m) r k T := hIA.keeps (F := []) (Keeps.refl _ _).drew (by simp)
  have hvD : BytesAt wA.drew (.slice a l.length c) l := hvA.keeps (F := []) (Keeps.refl _ _).drew (by simp)
  have hcp := fun ty => hID.copy hvD k (64 - k) (64 - k) (by omega) ty
  have hmn : min l.length (64 - k) = l.length := by omega
  have htk : l.take (64 - k) = l := List.take_of_length_le (by omega)
  rw [hmn, htk] at hcp
  have hcp' : ∃ w', (∀ ty, (Builtin.copy_ #[25, 25] ty #[.slice (some ⟨g, 8 + k, none⟩) (64 - k) (64 - k), .slice a l.length c]).run Tryd.prog wA.drew = .ok (.int .i64 (l.length : Nat)) w') ∧ HIn w' g (hState m) (over r k l) k T ∧ Keeps [g] wA.drew w' := by
    obtain ⟨w', e1, e2, e3⟩ := hcp 3
    exact ⟨w', fun ty => e1, e2, e3⟩
  obtain ⟨w3, hrun3, hI3, hk3⟩ := hcp'
  have hkD : Keeps [g] w w3 := hkA.trans (G := [g]) (((Keeps.refl [g] wA).drew).trans (G := [g]) hk3 (fun j hj => .inl hj)) (fun j hj => .inl (by simpa using hj))
  obtain ⟨a2, c2, hrun2, hb2, hm2, hf2⟩ := sl_from (n := l.length) hv (by omega) hc1 hc2 (F := fun k => k ≠ g) hvg
  have c72 := hI.have_cell
  have c73 := hI.taken_cell
  have f73 := hI.free 73
  have cA72 := hIA.have_cell
  have c372 := hI3.have_cell
  have f372 := hI3.free 72
  have b0 : decide ((0 : Int) < (k : Int)) = true := by simp; omega
  have e64 : ((k + l.length : Nat) : Int) = (k : Int) + (l.length : Int) := by omega
  have b1 : decide (((k : Int) + (l.length : Int)) < 64) = true := by simp; omega
  have hpart := hState_part (m := m) (l := l) (by omega)
  have hHAT : HashAt (w3.setCell ⟨g, 72, none⟩ (.int .i64 ((k + l.length : Nat) : Int))) g (m ++ l) := by
    have hlen : (m ++ l).length % 64 = k + l.length := by rw [List.length_append]; omega
    refine ⟨over r k l, ?_, ?_⟩
    · rw [hlen, ← hT, hpart.1]
      exact hI3.set_have _
    · rw [hlen, hpart.2, ← hr]
      have : (r.take k).length = k := by rw [List.length_take, hI.len]; omega
      unfold over
      exact List.take_left' (by rw [List.length_append, this])
  have HHAT := Lib.hid hHAT
  have HKF := Lib.hid (hkD.setCell (p := ⟨g, 72, none⟩) (.inl (by simp)) (.int .i64 ((k + l.length : Nat) : Int)))
  clear hHAT hpart
  have HSL := Lib.hid (show ∀ wx, (Instr.sliceAt 123 (.pointer (some ⟨g, 8, none⟩)) (some (.int .i64 k)) none none).run Tryd.prog wx = .ok (.slice (some ⟨g, 8 + k, none⟩) (64 - k) (64 - k)) wx from fun wx => by have := run_rest_from wx g k (by omega); rwa [if_neg (by omega)] at this)
  have HI := Lib.hid hI
  have HI3 := Lib.hid hI3
  have HK3 := Lib.hid hkD
  have HRUN3 := Lib.hid hrun3
  have HRUN2 := Lib.hid hrun2
  have HB2 := Lib.hid hb2
  have HF2 := Lib.hid hf2
  have HWA := Lib.hid hwA
  have HHT := Lib.hid hT
  have HTABS := Lib.hid ht
  have HG := Lib.hid (And.intro hg1 hg2)
  have HM := Lib.hid hk
  have HR := Lib.hid hr
  have HLL := Lib.hid hI.len
  clear hI hT hT0 hv ht hvg hg1 hg2 h hr hwA hkA hIA hvA hID hvD hcp hI3 hk3 hkD hrun3 hrun2 hb2 hf2 hk
  go_enter Tryd.func54, Tryd.ntmps54
  go_upto_region 2 with fail
  rw [← HWA.out]
  refine wp_region_held_drew (S := (fun w' => w'.cell? ⟨g, 72, none⟩ = some (.int .i64 (k : Nat)))) (by kernel_rfl) ?_ (fun hHeld => ?_)
  · exact cA72
  refine' wpAnyH_take (i := 0) (v := _) rfl (by kernel_rfl) (by kernel_rfl) (by kernel_rfl) (fun _ _ _ h => h) (Or.inl ⟨by rfl, ?_⟩) (by assumption) ?_
  rotate_left 1
  · (intro w0 hSw; (try dsimp only at hSw); go_split_ands; go_simp; (try with_reducible rfl))
  try simp only [Act.put, List.setIfInBounds_toArray, List.set_cons_zero, List.set_cons_succ, List.getElem_toArray, List.getElem_cons_zero, List.getElem_cons_succ]
  refine' wpAnyH_take (i := 1) (v := _) rfl (by kernel_rfl) (by kernel_rfl) (by kernel_rfl) (fun _ _ _ h => h) (Or.inl ⟨by rfl, ?_⟩) (by assumption) ?_
  rotate_left 1
  · (intro w0 hSw; (try dsimp only at hSw); go_split_ands; go_simp; (try with_reducible rfl))
  try simp only [Act.put, List.setIfInBounds_toArray, List.set_cons_zero, List.set_cons_succ, List.getElem_toArray, List.getElem_cons_zero, List.getElem_cons_succ]
  refine' wpAnyH_take (i := 2) (v := _) rfl (by kernel_rfl) (by kernel_rfl) (by kernel_rfl) (fun _ _ _ h => h) (Or.inl ⟨by rfl, ?_⟩) (by assumption) ?_
  rotate_left 1
  · (intro w0 hSw; (try dsimp only at hSw); go_split_ands; go_simp; (try with_reducible rfl))
  try simp only [Act.put, List.setIfInBounds_toArray, List.set_cons_zero, List.set_cons_succ, List.getElem_toArray, List.getElem_cons_zero, List.getElem_cons_succ]
  refine' wpAnyH_take (i := 3) (v := _) rfl (by kernel_rfl) (by kernel_rfl) (by kernel_rfl) (fun _ _ _ h => h) (Or.inl ⟨by rfl, ?_⟩) (by assumption) ?_
  rotate_left 1
  · (intro w0 hSw; (try dsimp only at hSw); go_split_ands; go_simp; (try with_reducible rfl))
  try simp only [Act.put, List.setIfInBounds_toArray, List.set_cons_zero, List.set_cons_succ, List.getElem_toArray, List.getElem_cons_zero, List.getElem_cons_succ]
  refine' wpAnyH_take (i := 4) (v := _) rfl (by kernel_rfl) (by kernel_rfl) (by kernel_rfl) (fun _ _ _ h => h) (Or.inl ⟨by rfl, ?_⟩) (by assumption) ?_
  rotate_left 1
  · (intro w0 hSw; (try dsimp only at hSw); go_split_ands; go_simp; (try with_reducible rfl))
  try simp only [Act.put, List.setIfInBounds_toArray, List.set_cons_zero, List.set_cons_succ, List.getElem_toArray, List.getElem_cons_zero, List.getElem_cons_succ]
  refine' wpAnyH_take (i := 5) (v := _) rfl (by kernel_rfl) (by kernel_rfl) (by kernel_rfl) (fun _ _ _ h => h) (Or.inl ⟨by rfl, ?_⟩) (by assumption) ?_
  rotate_left 1
  · (intro w0 hSw; (try dsimp only at hSw); go_split_ands; go_simp; (try with_reducible rfl))
  try simp only [Act.put, List.setIfInBounds_toArray, List.set_cons_zero, List.set_cons_succ, List.getElem_toArray, List.getElem_cons_zero, List.getElem_cons_succ]
  refine' wpAnyH_take (i := 6) (v := _) rfl (by kernel_rfl) (by kernel_rfl) (by kernel_rfl) (fun _ _ _ h => h) (Or.inl ⟨by rfl, ?_⟩) (by assumption) ?_
  rotate_left 1
  · (intro w0 hSw; (try dsimp only at hSw); go_split_ands; go_simp; (try with_reducible rfl))
  try simp only [Act.put, List.setIfInBounds_toArray, List.set_cons_zero, List.set_cons_succ, List.getElem_toArray, List.getElem_cons_zero, List.getElem_cons_succ]
  refine' wpAnyH_take (i := 7) (v := _) rfl (by kernel_rfl) (by kernel_rfl) (by kernel_rfl) (fun _ _ _ h => h) (Or.inl ⟨by rfl, ?_⟩) (by assumption) ?_
  rotate_left 1
  · intro w0 hSw
    go_simp
    rw [HSL.out w0]
    rfl
  try simp only [Act.put, List.setIfInBounds_toArray, List.set_cons_zero, List.set_cons_succ, List.getElem_toArray, List.getElem_cons_zero, List.getElem_cons_succ]
  refine' wpAnyH_take (i := 8) (v := _) rfl (by kernel_rfl) (by kernel_rfl) (by kernel_rfl) (fun _ _ _ h => h) (Or.inl ⟨by rfl, ?_⟩) (by assumption) ?_
  rotate_left 1
  · (intro w0 hSw; (try dsimp only at hSw); go_split_ands; go_simp; (try with_reducible rfl))
  try simp only [Act.put, List.setIfInBounds_toArray, List.set_cons_zero, List.set_cons_succ, List.getElem_toArray, List.getElem_cons_zero, List.getElem_cons_succ]
  refine wpAnyH_ready (rs := [9]) (by kernel_rfl) (by simp) ?_
  refine AllReadyH.cons rfl (fun K hK => ?_) AllReadyH.nil
  refine step_copy rfl (.tmp 27) (.tmp 28) rfl _ _ _ (by rfl) (by rfl) HRUN3.out ?_
  refine hK.out _ _ ?_ (fun hHeld => ?_)
  · exact c372
  clear hK K
  try simp only [Act.put, List.setIfInBounds_toArray, List.set_cons_zero, List.set_cons_succ, List.getElem_toArray, List.getElem_cons_zero, List.getElem_cons_succ]
  refine' wpAnyH_take (i := 10) (v := _) rfl (by kernel_rfl) (by kernel_rfl) (by kernel_rfl) (fun _ _ _ h => h) (Or.inl ⟨by rfl, ?_⟩) (by assumption) ?_
  rotate_left 1
  · (intro w0 hSw; (try dsimp only at hSw); go_split_ands; go_simp; (try with_reducible rfl))
  try simp only [Act.put, List.setIfInBounds_toArray, List.set_cons_zero, List.set_cons_succ, List.getElem_toArray, List.getElem_cons_zero, List.getElem_cons_succ]
  refine wpAnyH_done (by kernel_rfl) ?_ _
  clear hHeld
  go_wp2_with (first | (refine wl_slice rfl 25 (.tmp 38) (some (.tmp 39)) none none rfl ?_; refine ⟨_, _, HRUN2.out _, ?_⟩; try simp only [Act.put, List.setIfInBounds_toArray, List.set_cons_zero, List.set_cons_succ, List.getElem_toArray, List.getElem_cons_zero, List.getElem_cons_succ]))
  (try simp only [Exit.inBlock, Exit.then])
  refine bodyPost_ret (results_none rfl _ _ _) rfl ?_
  have h1 := HHAT.out
  have h2 := HKF.out
  rw [e64] at h1 h2
  exact ⟨rfl, h1, h2⟩
set_option maxRecDepth 100000 in
set_option maxHeartbeats 3200000 in
theorem write_full {w : World} {g : Nat} {m l : List UInt8} {v : Value} (h : HashAt w g m) (hpos : 0 < m.length % 64) (hroom : 64 ≤ m.length % 64 + l.length) (hv : BytesAt w v l) (hvg : ∀ k, v.elemBlock = some k → k ≠ g) (ht : Tabs w) (hg1 : g ≠ 1) (hg2 : g ≠ 0) :
    Calls Tryd.prog 54 #[.pointer (some ⟨g, 0, none⟩), v] w fun e w' => e = .returned (.tuple #[]) ∧ HashAt w' g (m ++ l) ∧ Keeps [g] w w' := by
  obtain ⟨r, hI, hr⟩ := h.cells
  obtain ⟨a, c, rfl, hc1, hc2⟩ := hv.form
  have hc2' := hc2
  unfold maxLen at hc2'
  obtain ⟨T0, hT0⟩ : ∃ x, x = m.length % 18446744073709551616 := ⟨_, rfl⟩
  obtain ⟨T, hT⟩ : ∃ x, x = (m ++ l).length % 18446744073709551616 := ⟨_, rfl⟩
  rw [← hT0] at hI
  have u1 : IntKind.u64.wrap ((T0 : Int) + (l.length : Int)) = (T : Int) := by rw [hT, hT0, List.length_append]; simp only [IntKind.wrap, IntKind.bits, IntKind.signed]; simp
  obtain ⟨k, hk⟩ : ∃ x, x = m.length % 64 := ⟨_, rfl⟩
  have hk64 : k < 64 := by omega
  rw [← hk] at hI hr hpos hroom
  obtain ⟨wA, hwA⟩ : ∃ x, x = w.setCell ⟨g, 73, none⟩ (.int .u64 (T : Nat)) := ⟨_, rfl⟩
  have hkA : Keeps [g] w wA := by rw [hwA]; exact (Keeps.refl _ _).setCell (.inl (by simp)) _
  have hIA : HIn wA g (hState m) r k T := by rw [hwA]; exact hI.set_taken T
  have hvA : BytesAt wA (.slice a l.length c) l := hv.keeps hkA (fun k hk => by simpa using hvg k hk)
  have hID : HIn wA.drew g (hState m) r k T := hIA.keeps (F := []) (Keeps.refl _ _).drew (by simp)
  have hvD : BytesAt wA.drew (.slice a l.length c) l := hvA.keeps (F := []) (Keeps.refl _ _).drew (by simp)
  have hcp := fun ty => hID.copy hvD k (64 - k) (64 - k) (by omega) ty
  have hmn : min l.length (64 - k) = 64 - k := by omega
  rw [hmn] at hcp
  have hcp' : ∃ w', (∀ ty, (Builtin.copy_ #[25, 25] ty #[.slice (some ⟨g, 8 + k, none⟩) (64 - k) (64 - k), .slice a l.length c]).run Tryd.prog wA.drew = .ok (.int .i64 ((64 - k : Nat) : Int)) w') ∧ HIn w' g (hState m) (over r k (l.take (64 - k))) k T ∧ Keeps [g] wA.drew w' := by
    obtain ⟨w', e1, e2, e3⟩ := hcp 3
    exact ⟨w', fun ty => e1, e2, e3⟩
  obtain ⟨w3, hrun3, hI3, hk3⟩ := hcp'
  have hkD : Keeps [g] w w3 := hkA.trans (G := [g]) (((Keeps.refl [g] wA).drew).trans (G := [g]) hk3 (fun j hj => .inl hj)) (fun j hj => .inl (by simpa using hj))
  obtain ⟨a2, c2, hrun2, hb2, hm2, hf2⟩ := sl_from (n := 64 - k) hv (by omega) hc1 hc2 (F := fun k => k ≠ g) hvg
  have c72 := hI.have_cell
  have c73 := hI.taken_cell
  have f73 := hI.free 73
  have cA72 := hIA.have_cell
  have c372 := hI3.have_cell
  have f372 := hI3.free 72
  have b0 : decide ((0 : Int) < (k : Int)) = true := by simp; omega
  have e64 : (k : Int) + ((64 - k : Nat) : Int) = ((64 : Nat) : Int) := by omega
  have b1 : decide (((k : Int) + ((64 - k : Nat) : Int)) < 64) = false := by simp; omega
  have htl : (l.take (64 - k)).length = 64 - k := by rw [List.length_take]; omega
  have hfull := hState_full (m := m) (l := l.take (64 - k)) (by rw [htl]; omega)
  have hov : over r k (l.take (64 - k)) = hTail m ++ l.take (64 - k) := by
    unfold over
    rw [htl, hr, List.drop_of_length_le (by rw [hI.len]; omega), List.append_nil]
  rw [← hov] at hfull
  obtain ⟨R, hR⟩ : ∃ R, R = over r k (l.take (64 - k)) := ⟨_, rfl⟩
  rw [← hR] at hfull hI3
  obtain ⟨w4, hw4⟩ : ∃ x, x = w3.setCell ⟨g, 72, none⟩ (.int .i64 64) := ⟨_, rfl⟩
  have hI4 : HIn w4 g (hState m) R 64 T := by rw [hw4]; exact hI3.set_have 64
  have hk4 : Keeps [g] w w4 := by rw [hw4]; exact hkD.setCell (.inl (by simp)) _
  have hst := step_any (s := hState m) (p := R) (rest := R.map B ++ [.int .i64 (64 : Nat), .int .u64 T]) (cp := 64) hI4.rest hI4.len hI4.lt (by omega) (by omega) (hState_ok m) hI4.row (ht.keeps hk4 (by simp; exact Ne.symm hg1) (by simp; exact Ne.symm hg2)) hg1
  have HST := Lib.hid hst
  have HW4 := Lib.hid hw4
  have HK4 := Lib.hid hk4
  have HFULL := Lib.hid hfull
  have HRL := Lib.hid hI4.len
  have cc72 := hI4.have_cell
  clear hst hw4 hk4 hfull hov hR hI4
  have HSL := Lib.hid (show ∀ wx, (Instr.sliceAt 123 (.pointer (some ⟨g, 8, none⟩)) (some (.int .i64 k)) none none).run Tryd.prog wx = .ok (.slice (some ⟨g, 8 + k, none⟩) (64 - k) (64 - k)) wx from fun wx => by have := run_rest_from wx g k (by omega); rwa [if_neg (by omega)] at this)
  have HI := Lib.hid hI
  have HI3 := Lib.hid hI3
  have HK3 := Lib.hid hkD
  have HRUN3 := Lib.hid hrun3
  have HRUN2 := Lib.hid hrun2
  have HB2 := Lib.hid hb2
  have HF2 := Lib.hid hf2
  have HWA := Lib.hid hwA
  have HHT := Lib.hid hT
  have HTABS := Lib.hid ht
  have HG := Lib.hid (And.intro hg1 hg2)
  have HM := Lib.hid hk
  have HR := Lib.hid hr
  have HLL := Lib.hid hI.len
  clear hI hT hT0 hv ht hvg hg1 hg2 h hr hwA hkA hIA hvA hID hvD hcp hI3 hk3 hkD hrun3 hrun2 hb2 hf2 hk
  go_enter Tryd.func54, Tryd.ntmps54
  go_upto_region 2 with fail
  rw [← HWA.out]
  refine wp_region_held_drew (S := (fun w' => w'.cell? ⟨g, 72, none⟩ = some (.int .i64 (k : Nat)))) (by kernel_rfl) ?_ (fun hHeld => ?_)
  · exact cA72
  refine' wpAnyH_take (i := 0) (v := _) rfl (by kernel_rfl) (by kernel_rfl) (by kernel_rfl) (fun _ _ _ h => h) (Or.inl ⟨by rfl, ?_⟩) (by assumption) ?_
  rotate_left 1
  · (intro w0 hSw; (try dsimp only at hSw); go_split_ands; go_simp; (try with_reducible rfl))
  try simp only [Act.put, List.setIfInBounds_toArray, List.set_cons_zero, List.set_cons_succ, List.getElem_toArray, List.getElem_cons_zero, List.getElem_cons_succ]
  refine' wpAnyH_take (i := 1) (v := _) rfl (by kernel_rfl) (by kernel_rfl) (by kernel_rfl) (fun _ _ _ h => h) (Or.inl ⟨by rfl, ?_⟩) (by assumption) ?_
  rotate_left 1
  · (intro w0 hSw; (try dsimp only at hSw); go_split_ands; go_simp; (try with_reducible rfl))
  try simp only [Act.put, List.setIfInBounds_toArray, List.set_cons_zero, List.set_cons_succ, List.getElem_toArray, List.getElem_cons_zero, List.getElem_cons_succ]
  refine' wpAnyH_take (i := 2) (v := _) rfl (by kernel_rfl) (by kernel_rfl) (by kernel_rfl) (fun _ _ _ h => h) (Or.inl ⟨by rfl, ?_⟩) (by assumption) ?_
  rotate_left 1
  · (intro w0 hSw; (try dsimp only at hSw); go_split_ands; go_simp; (try with_reducible rfl))
  try simp only [Act.put, List.setIfInBounds_toArray, List.set_cons_zero, List.set_cons_succ, List.getElem_toArray, List.getElem_cons_zero, List.getElem_cons_succ]
  refine' wpAnyH_take (i := 3) (v := _) rfl (by kernel_rfl) (by kernel_rfl) (by kernel_rfl) (fun _ _ _ h => h) (Or.inl ⟨by rfl, ?_⟩) (by assumption) ?_
  rotate_left 1
  · (intro w0 hSw; (try dsimp only at hSw); go_split_ands; go_simp; (try with_reducible rfl))
  try simp only [Act.put, List.setIfInBounds_toArray, List.set_cons_zero, List.set_cons_succ, List.getElem_toArray, List.getElem_cons_zero, List.getElem_cons_succ]
  refine' wpAnyH_take (i := 4) (v := _) rfl (by kernel_rfl) (by kernel_rfl) (by kernel_rfl) (fun _ _ _ h => h) (Or.inl ⟨by rfl, ?_⟩) (by assumption) ?_
  rotate_left 1
  · (intro w0 hSw; (try dsimp only at hSw); go_split_ands; go_simp; (try with_reducible rfl))
  try simp only [Act.put, List.setIfInBounds_toArray, List.set_cons_zero, List.set_cons_succ, List.getElem_toArray, List.getElem_cons_zero, List.getElem_cons_succ]
  refine' wpAnyH_take (i := 5) (v := _) rfl (by kernel_rfl) (by kernel_rfl) (by kernel_rfl) (fun _ _ _ h => h) (Or.inl ⟨by rfl, ?_⟩) (by assumption) ?_
  rotate_left 1
  · (intro w0 hSw; (try dsimp only at hSw); go_split_ands; go_simp; (try with_reducible rfl))
  try simp only [Act.put, List.setIfInBounds_toArray, List.set_cons_zero, List.set_cons_succ, List.getElem_toArray, List.getElem_cons_zero, List.getElem_cons_succ]
  refine' wpAnyH_take (i := 6) (v := _) rfl (by kernel_rfl) (by kernel_rfl) (by kernel_rfl) (fun _ _ _ h => h) (Or.inl ⟨by rfl, ?_⟩) (by assumption) ?_
  rotate_left 1
  · (intro w0 hSw; (try dsimp only at hSw); go_split_ands; go_simp; (try with_reducible rfl))
  try simp only [Act.put, List.setIfInBounds_toArray, List.set_cons_zero, List.set_cons_succ, List.getElem_toArray, List.getElem_cons_zero, List.getElem_cons_succ]
  refine' wpAnyH_take (i := 7) (v := _) rfl (by kernel_rfl) (by kernel_rfl) (by kernel_rfl) (fun _ _ _ h => h) (Or.inl ⟨by rfl, ?_⟩) (by assumption) ?_
  rotate_left 1
  · intro w0 hSw
    go_simp
    rw [HSL.out w0]
    rfl
  try simp only [Act.put, List.setIfInBounds_toArray, List.set_cons_zero, List.set_cons_succ, List.getElem_toArray, List.getElem_cons_zero, List.getElem_cons_succ]
  refine' wpAnyH_take (i := 8) (v := _) rfl (by kernel_rfl) (by kernel_rfl) (by kernel_rfl) (fun _ _ _ h => h) (Or.inl ⟨by rfl, ?_⟩) (by assumption) ?_
  rotate_left 1
  · (intro w0 hSw; (try dsimp only at hSw); go_split_ands; go_simp; (try with_reducible rfl))
  try simp only [Act.put, List.setIfInBounds_toArray, List.set_cons_zero, List.set_cons_succ, List.getElem_toArray, List.getElem_cons_zero, List.getElem_cons_succ]
  refine wpAnyH_ready (rs := [9]) (by kernel_rfl) (by simp) ?_
  refine AllReadyH.cons rfl (fun K hK => ?_) AllReadyH.nil
  refine step_copy rfl (.tmp 27) (.tmp 28) rfl _ _ _ (by rfl) (by rfl) HRUN3.out ?_
  refine hK.out _ _ ?_ (fun hHeld => ?_)
  · exact c372
  clear hK K
  try simp only [Act.put, List.setIfInBounds_toArray, List.set_cons_zero, List.set_cons_succ, List.getElem_toArray, List.getElem_cons_zero, List.getElem_cons_succ]
  refine' wpAnyH_take (i := 10) (v := _) rfl (by kernel_rfl) (by kernel_rfl) (by kernel_rfl) (fun _ _ _ h => h) (Or.inl ⟨by rfl, ?_⟩) (by assumption) ?_
  rotate_left 1
  · (intro w0 hSw; (try dsimp only at hSw); go_split_ands; go_simp; (try with_reducible rfl))
  try simp only [Act.put, List.setIfInBounds_toArray, List.set_cons_zero, List.set_cons_succ, List.getElem_toArray, List.getElem_cons_zero, List.getElem_cons_succ]
  refine wpAnyH_done (by kernel_rfl) ?_ _
  clear hHeld
  go_upto_region 6 with (first | (refine wl_slice rfl 25 (.tmp 38) (some (.tmp 39)) none none rfl ?_; refine ⟨_, _, HRUN2.out _, ?_⟩; try simp only [Act.put, List.setIfInBounds_toArray, List.set_cons_zero, List.set_cons_succ, List.getElem_toArray, List.getElem_cons_zero, List.getElem_cons_succ]))
  first | rw [← HW4.out] | (have HW4' := HW4.out; rw [show ((64 : Int)) = ((64 : Nat) : Int) from rfl] at HW4'; rw [← HW4'])
  go_upto_region 7 with (first | (go_at_call 69; refine HST.out.mono ?_; rintro e w5 ⟨rfl, hrow5, hk5⟩))
  have hI5 : HIn w5 g _ R 64 T := ⟨hrow5, HRL.out⟩
  have f572 := hI5.free 72
  have c572 := hI5.have_cell
  have HI5 := Lib.hid hI5
  go_wp2_with fail
  go_loopw [1] (fun v wr => WLoop w wr g T (m ++ l) v) (fun v _ => sliceLen v)
  case atStart =>
    have hk0 : Keeps [g] w (w5.setCell ⟨g, 72, none⟩ (.int .i64 0)) := (HK4.out.trans (G := [g]) hk5 (fun j hj => .inl hj)).setCell (.inl (by simp)) _
    have ev : ∀ cc, Value.slice a2 (l.length - (64 - k)) cc = Value.slice a2 (l.drop (64 - k)).length cc := fun cc => by rw [List.length_drop]
    rw [ev]
    refine ⟨m ++ l.take (64 - k), l.drop (64 - k), a2, c2, rfl, by rw [List.append_assoc, List.take_append_drop], HFULL.out.2.2, HB2.out.keeps hk0 (fun j hj => by simpa using HF2.out j hj), ?_, hm2, HF2.out, ⟨R, by rw [HFULL.out.1]; exact HI5.out.set_have 0⟩, hk0⟩
    obtain ⟨_, _, e, hh, _⟩ := HB2.out.form
    injection e with _ _ e3
    rw [e3]; exact hh
  case round =>
    obtain ⟨m1, l1, a1, c1, rfl, hal, hm1, hv1, hlc1, hc1, hvg1, ⟨r1, hI1⟩, hk1⟩ := hrel.ex
    have hc1' := hc1
    unfold maxLen at hc1'
    clear hrel
    by_cases hlt : 64 ≤ l1.length
    · obtain ⟨go, so, rfl, hgo, hrg⟩ := hv1.at (by omega)
      have b1 : decide ((64 : Int) ≤ (l1.length : Int)) = true := by simp; omega
      have hrg64 : wr.rangeAt go so ((l1.take 64).map B) := fun j v hj => by
        refine hrg j v ?_
        rw [List.map_take, List.getElem?_take] at hj
        split at hj
        · exact hj
        · cases hj
      have ht64 : (l1.take 64).length = 64 := by rw [List.length_take]; omega
      have hst := step_any (s := hState m1) (rest := r1.map B ++ [.int .i64 (0 : Nat), .int .u64 T]) hrg64 ht64 hgo (show 64 ≤ c1 by omega) (by omega) (hState_ok m1) hI1.row ((HTABS.out.keeps hk1 (by simp; exact Ne.symm HG.out.1) (by simp; exact Ne.symm HG.out.2))) HG.out.1
      obtain ⟨a2, c2, hrun2, hb2, hm2, hf2⟩ := sl_from hv1 hlt hlc1 hc1 (F := fun k => k ≠ g) hvg1
      have hfull := hState_full (m := m1) (l := l1.take 64) (by rw [hm1, ht64])
      have e0 : hTail m1 = [] := List.eq_nil_of_length_eq_zero (by rw [hTail_length, hm1])
      rw [e0, List.nil_append] at hfull
      have HST := Lib.hid hst
      have HRUN2 := Lib.hid hrun2
      have HB2 := Lib.hid hb2
      have HF2 := Lib.hid hf2
      have HFULL := Lib.hid hfull
      have HK1 := Lib.hid hk1
      have HI1 := Lib.hid hI1
      have HAL := Lib.hid hal
      have HVG1 := Lib.hid hvg1
      clear hst hrun2 hb2 hf2 hfull hk1 hI1 hal hvg1 hv1 hrg hrg64 e0
      go_upto_region 9 with (first | (refine wl_slice rfl 25 (.tmp 59) none (some (.const (.int .i64 64))) none rfl ?_; refine ⟨_, _, sl_run_head _ _ _ _ 64 (by omega), ?_⟩; try simp only [Act.put, List.setIfInBounds_toArray, List.set_cons_zero, List.set_cons_succ, List.getElem_toArray, List.getElem_cons_zero, List.getElem_cons_succ]) | (go_at_call 69; refine HST.out.mono ?_; rintro e w2 ⟨rfl, hrow2, hk2⟩))
      go_wp2_with (first | (refine wl_slice rfl 25 (.tmp 59) none (some (.const (.int .i64 64))) none rfl ?_; refine ⟨_, _, sl_run_head _ _ _ _ 64 (by omega), ?_⟩; try simp only [Act.put, List.setIfInBounds_toArray, List.set_cons_zero, List.set_cons_succ, List.getElem_toArray, List.getElem_cons_zero, List.getElem_cons_succ]) | (go_at_call 69; refine HST.out.mono ?_; rintro e w2 ⟨rfl, hrow2, hk2⟩) | (refine wl_slice rfl 25 (.tmp 62) (some (.const (.int .i64 64))) none none rfl ?_; refine ⟨_, _, HRUN2.out _, ?_⟩; try simp only [Act.put, List.setIfInBounds_toArray, List.set_cons_zero, List.set_cons_succ, List.getElem_toArray, List.getElem_cons_zero, List.getElem_cons_succ]))
      go_roundw
      case rel =>
        refine ⟨m1 ++ l1.take 64, l1.drop 64, a2, c2, rfl, ?_, HFULL.out.2.2, ?_, ?_, hm2, HF2.out, ⟨r1, ⟨?_, HI1.out.len⟩⟩, ?_⟩
        · rw [List.append_assoc, List.take_append_drop]; exact HAL.out
        · exact HB2.out.keeps hk2 (fun k hk => by simpa using HF2.out k hk)
        · exact (by obtain ⟨_, _, e, h, _⟩ := HB2.out.form; injection e with _ _ e3; rw [e3]; exact h)
        · rw [HFULL.out.1]; exact hrow2
        · exact HK1.out.trans (G := [g]) hk2 (fun j hj => .inl hj)
      case measure => simp [sliceLen]; omega
    · have b1 : decide ((64 : Int) ≤ (l1.length : Int)) = false := by simp; omega
      have hcp := hI1.copy hv1 0 64 64 rfl 3
      have htk : l1.take 64 = l1 := List.take_of_length_le (by omega)
      have hmn : min l1.length 64 = l1.length := by omega
      rw [htk, hmn] at hcp
      simp only [Nat.add_zero] at hcp
      obtain ⟨w3, hrun3, hI3, hk3⟩ := hcp
      have hpart := hState_part (m := m1) (l := l1) (by omega)
      have e0 : hTail m1 = [] := List.eq_nil_of_length_eq_zero (by rw [hTail_length, hm1])
      rw [e0, List.nil_append] at hpart
      have hlen1 : (m ++ l).length % 64 = l1.length := by rw [← hal, List.length_append]; omega
      have hHAT : HashAt (w3.setCell ⟨g, 72, none⟩ (.int .i64 (l1.length : Nat))) g (m ++ l) := by
        refine ⟨over r1 0 l1, ?_, ?_⟩
        · rw [hlen1, ← HHT.out, ← hal, hpart.1]
          exact hI3.set_have _
        · rw [hlen1, ← hal, hpart.2]
          exact over_front (by rw [hI1.len]; omega)
      have hKK : Keeps [g] w (w3.setCell ⟨g, 72, none⟩ (.int .i64 (l1.length : Nat))) := (hk1.trans (G := [g]) hk3 (fun j hj => .inl hj)).setCell (.inl (by simp)) _
      have f72 := hI3.free 72
      have c72 := hI3.have_cell
      have HHAT := Lib.hid hHAT
      have HKK := Lib.hid hKK
      have HRUN3 := Lib.hid (run_builtin_copy hrun3)
      clear hHAT hKK hrun3 hI3 hk3 hpart hlen1 hk1 hI1 hal hvg1 hv1 e0 htk hmn
      go_wp2_with (first | (refine wl_builtin rfl .copy #[.tmp 68, .tmp 69] #[25, 25] rfl ?_; simp only [List.map_toArray, List.map_cons, List.map_nil]; refine ⟨_, _, HRUN3.out, ?_⟩; try simp only [Act.put, List.setIfInBounds_toArray, List.set_cons_zero, List.set_cons_succ, List.getElem_toArray, List.getElem_cons_zero, List.getElem_cons_succ]))
      refine Go.Great.bodyPost_end0 rfl rfl ⟨rfl, ?_, ?_⟩
      · exact HHAT.out
      · exact HKK.out
/-- Write. -/
theorem write_any {w : World} {g : Nat} {m l : List UInt8} {v : Value} (h : HashAt w g m) (hv : BytesAt w v l) (hvg : ∀ k, v.elemBlock = some k → k ≠ g) (ht : Tabs w) (hg1 : g ≠ 1) (hg2 : g ≠ 0) :
    Calls Tryd.prog 54 #[.pointer (some ⟨g, 0, none⟩), v] w fun e w' => e = .returned (.tuple #[]) ∧ HashAt w' g (m ++ l) ∧ Keeps [g] w w' := by
  by_cases h0 : m.length % 64 = 0
  · exact write_zero h h0 hv hvg ht hg1 hg2
  · by_cases h1 : m.length % 64 + l.length < 64
    · exact write_part h (by omega) h1 hv hvg ht hg1 hg2
    · exact write_full h (by omega) (by omega) hv hvg ht hg1 hg2
end Go.Proofs.YtojlojdkhegbkaaDoor

/-
  Package file: an open page file as a value; Live, Super, Forget; the disk as a thing that a call may turn.
-/
namespace Go.Proofs.YtojlojdkhegbkaaDoor
set_option linter.unusedVariables false
set_option linter.unusedSimpArgs false
open Go.RowKit

/-- Behind a call the disk is d', over its old blocks and new ones; nothing else that was there has turned. -/
def DStep (w : World) (b : Nat) (F : List Nat) (d' : D) (w' : World) : Prop := ∃ F', DiskAt w' b d' F' ∧ From w F F' ∧ Keeps F w w'
theorem DStep.refl {w : World} {b : Nat} {F : List Nat} {d : D} (h : DiskAt w b d F) : DStep w b F d w := ⟨F, h, From.refl _ _, Keeps.refl _ _⟩
theorem DStep.trans {w w1 w2 : World} {b : Nat} {F : List Nat} {d2 : D} {F1 : List Nat} (hf : From w F F1) (hk : Keeps F w w1) (h : DStep w1 b F1 d2 w2) : DStep w b F d2 w2 := by
  obtain ⟨F2, h2, f2, k2⟩ := h
  exact ⟨F2, h2, hf.trans f2 hk.size, hk.trans k2 hf⟩
theorem DStep.of_keeps {w w1 : World} {b : Nat} {F : List Nat} {d : D} (h : DiskAt w b d F) (hk : Keeps [] w w1) : DStep w b F d w1 :=
  ⟨F, h.keeps hk (by simp), fun k hk => .inl hk, hk.mono (by simp)⟩
theorem DStep.keeps {w w1 w2 : World} {b : Nat} {F : List Nat} {d : D} (h : DStep w b F d w1) (hk : Keeps [] w1 w2) : DStep w b F d w2 := by
  obtain ⟨F1, h1, f1, k1⟩ := h
  exact ⟨F1, h1.keeps hk (by simp), f1, k1.trans hk (by simp)⟩
theorem dRead_step {w : World} {b : Nat} {d : D} {F : List Nat} (page : Nat) (hI : DiskAt w b d F) (hd : d.dead = false) (hp : page < d.n) :
    Calls Tryd.prog 56 #[.pointer (some ⟨b, 0, none⟩), .int .i64 page] w fun e w' => ∃ g cap, e = .returned (.tuple #[.slice (some ⟨g, 0, none⟩) 256 cap, .int .i64 0]) ∧ w.heap.size ≤ g ∧
      OwnB w' (.slice (some ⟨g, 0, none⟩) 256 cap) (d.read page) ∧ DiskAt w' b { d with reads := wrap64 (d.reads + 1) } F ∧ Keeps F w w' := by
  obtain ⟨bp, qv, bm, hI, rfl⟩ := hI
  refine (dRead_ok page hI hd hp).mono ?_
  rintro e w' ⟨g, cap, he, hg, ho, hI', hk⟩
  exact ⟨g, cap, he, hg, ho, ⟨bp, qv, bm, hI', rfl⟩, hk.mono (fun k hk => .inl (by simp at hk; simp [hk]))⟩
theorem qv_from {w : World} {b bp bm : Nat} {qv qv' : Value} (h : qv'.ownBlock = qv.ownBlock ∨ ∃ g, qv'.ownBlock = some g ∧ w.heap.size ≤ g) : From w (b :: bp :: bm :: qv.ownBlock.toList) (b :: bp :: bm :: qv'.ownBlock.toList) := by
  intro k hk
  rcases h with h | ⟨g, h, hg⟩
  · rw [h] at hk; exact .inl hk
  · rw [h] at hk
    simp only [List.mem_cons, Option.toList_some, List.not_mem_nil, or_false] at hk
    rcases hk with rfl | rfl | rfl | rfl
    · exact .inl (by simp)
    · exact .inl (by simp)
    · exact .inl (by simp)
    · exact .inr hg
theorem dWrite_step {w : World} {b : Nat} {d : D} {F : List Nat} (page : Nat) {g o c : Nat} {data : List UInt8} (hI : DiskAt w b d F) (hd : d.dead = false) (hp : page < d.n) (hl : data.length = 256)
    (hg : g < w.heap.size) (hr : w.rangeAt g o (data.map B)) (hc : 256 ≤ c) (hq : d.q.length < 4294967296) :
    Calls Tryd.prog 60 #[.pointer (some ⟨b, 0, none⟩), .int .i64 page, .slice (some ⟨g, o, none⟩) 256 c] w fun e w' => e = .returned (.int .i64 (if d.armed = 1 then 2 else 0)) ∧ DStep w b F (d.write page data) w' := by
  obtain ⟨bp, qv, bm, hI, rfl⟩ := hI
  refine (dWrite_ok page hI hd hp hl hg hr hc hq).mono ?_
  rintro e w' ⟨he, qv', hI', hk, ho⟩
  exact ⟨he, _, ⟨bp, qv', bm, hI', rfl⟩, qv_from ho, hk⟩
def D.sync (d : D) : D := { d.act with img := synced d.img d.q, q := [], syncs := wrap64 (d.syncs + 1) }
theorem dSync_step {w : World} {b : Nat} {d : D} {F : List Nat} (hI : DiskAt w b d F) (hd : d.dead = false) (ha : d.armed ≠ 1) :
    Calls Tryd.prog 10 #[.pointer (some ⟨b, 0, none⟩)] w fun e w' => e = .returned (.int .i64 0) ∧ DStep w b F d.sync w' := by
  obtain ⟨bp, qv, bm, hI, rfl⟩ := hI
  refine (dSync_ok hI hd ha).mono ?_
  rintro e w' ⟨he, hI', hk⟩
  exact ⟨he, _, ⟨bp, _, bm, hI', rfl⟩, fun k hk => .inl (by simp [Value.ownBlock] at hk; rcases hk with rfl | rfl | rfl <;> simp), hk.mono (fun k hk => .inl (by simp at hk; rcases hk with rfl | rfl | rfl <;> simp))⟩
theorem DiskAt.dcells {w : World} {b : Nat} {d : D} {F : List Nat} (h : DiskAt w b d F) : ∃ bp, w.cell? ⟨b, 4, none⟩ = some (.slice (some ⟨bp, 0, none⟩) d.n d.n) ∧ w.cell? ⟨b, 8, none⟩ = some (.bool d.dead) ∧ w.cell? ⟨b, 9, none⟩ = some (.int .i64 d.epoch) ∧ w.cell? ⟨b, 7, none⟩ = some (.int .i64 d.armed) ∧ b ∈ F := by
  obtain ⟨bp, qv, bm, hI, rfl⟩ := h
  obtain ⟨c0, c1, c2, c3, c4, c5, c6, c7, c8, c9⟩ := hI.cells
  exact ⟨bp, c4, c8, c9, c7, by simp⟩

/-- An open page file. -/
structure Fi where
  sup : Sup
  next : Int
  mine : Int
def fiC (b : Nat) (f : Fi) : List Value := [.pointer (some ⟨b, 0, none⟩), .int .i64 f.sup.width, .int .i64 f.sup.gen, .int .i64 f.sup.mark, .int .i64 f.sup.head, .int .i64 f.sup.pages, .int .i64 f.next, .int .i64 f.mine]
def FileAt (w : World) (bf b : Nat) (f : Fi) : Prop := w.heap[bf]? = some (.cells (fiC b f).toArray 108 (0, 0))
theorem FileAt.keeps {w w' : World} {bf b : Nat} {f : Fi} {F : List Nat} (h : FileAt w bf b f) (hk : Keeps F w w') (hg : bf ∉ F) : FileAt w' bf b f := (hk.block bf (lt_of_heap h) hg).trans h
theorem FileAt.cells {w : World} {bf b : Nat} {f : Fi} (h : FileAt w bf b f) : w.cell? ⟨bf, 0, none⟩ = some (.pointer (some ⟨b, 0, none⟩)) ∧ w.cell? ⟨bf, 3, none⟩ = some (.int .i64 f.sup.mark) ∧ w.cell? ⟨bf, 6, none⟩ = some (.int .i64 f.next) ∧ w.cell? ⟨bf, 7, none⟩ = some (.int .i64 f.mine) := by
  refine ⟨?_, ?_, ?_, ?_⟩ <;> (rw [cell_of_row w bf _ _ _ _ h]; rfl)
theorem FileAt.range {w : World} {bf b : Nat} {f : Fi} (h : FileAt w bf b f) : w.rangeAt bf 1 (supC f.sup) := by
  have : fiC b f = [.pointer (some ⟨b, 0, none⟩)] ++ supC f.sup ++ [.int .i64 f.next, .int .i64 f.mine] := rfl
  unfold FileAt at h
  rw [this] at h
  exact rangeAt_part h
theorem FileAt.free {w : World} {bf b : Nat} {f : Fi} (h : FileAt w bf b f) (j : Nat) : w.frozen? ⟨bf, j, none⟩ = false := frozen_of_row w bf j _ _ h
/-- What Live answers. -/
def liveE (d : D) (f : Fi) : Int := if d.epoch ≠ f.mine then 3 else if d.dead = true then 2 else 0
set_option maxRecDepth 100000 in
set_option maxHeartbeats 800000 in
theorem fLive_any {w : World} {bf b : Nat} {f : Fi} {d : D} {F : List Nat} (hf : FileAt w bf b f) (hd : DiskAt w b d F) :
    Calls Tryd.prog 29 #[.pointer (some ⟨bf, 0, none⟩)] w fun e w' => e = .returned (.int .i64 (liveE d f)) ∧ Keeps [] w w' := by
  obtain ⟨c0, _, _, c7⟩ := hf.cells
  obtain ⟨bp, _, d8, d9, _⟩ := hd.dcells
  obtain ⟨L, hL⟩ : ∃ L, L = liveE d f := ⟨_, rfl⟩
  rw [← hL]
  unfold liveE at hL
  obtain ⟨ep, hep⟩ : ∃ x, x = d.epoch := ⟨_, rfl⟩
  obtain ⟨dd, hdd⟩ : ∃ x, x = d.dead := ⟨_, rfl⟩
  obtain ⟨mi, hmi⟩ : ∃ x, x = f.mine := ⟨_, rfl⟩
  rw [← hep] at d9 hL
  rw [← hdd] at d8 hL
  rw [← hmi] at c7 hL
  have HL := Lib.hid hL
  have CE := Lib.hid (fun (wx : World) (h : wx.cell? ⟨b, 9, none⟩ = some (.int .i64 ep)) => dEpoch_any h)
  clear hf hd hL hep hdd hmi
  go_enter Tryd.func29, Tryd.ntmps29
  go_upto_region 1 with fail
  refine wp_region_held_drew (S := (fun w' => w'.cell? ⟨bf, 0, none⟩ = some (.pointer (some ⟨b, 0, none⟩)) ∧ w'.cell? ⟨bf, 7, none⟩ = some (.int .i64 mi) ∧ w'.cell? ⟨b, 9, none⟩ = some (.int .i64 ep))) (by kernel_rfl) ?_ (fun hHeld => ?_)
  · exact ⟨c0, c7, d9⟩
  refine' wpAnyH_take (i := 0) (v := _) rfl (by kernel_rfl) (by kernel_rfl) (by kernel_rfl) (fun _ _ _ h => h) (Or.inl ⟨by rfl, ?_⟩) (by assumption) ?_
  rotate_left 1
  · (intro w0 hSw; (try dsimp only at hSw); go_split_ands; go_simp; (try with_reducible rfl))
  try simp only [Act.put, List.setIfInBounds_toArray, List.set_cons_zero, List.set_cons_succ, List.getElem_toArray, List.getElem_cons_zero, List.getElem_cons_succ]
  refine' wpAnyH_take (i := 1) (v := _) rfl (by kernel_rfl) (by kernel_rfl) (by kernel_rfl) (fun _ _ _ h => h) (Or.inl ⟨by rfl, ?_⟩) (by assumption) ?_
  rotate_left 1
  · (intro w0 hSw; (try dsimp only at hSw); go_split_ands; go_simp; (try with_reducible rfl))
  try simp only [Act.put, List.setIfInBounds_toArray, List.set_cons_zero, List.set_cons_succ, List.getElem_toArray, List.getElem_cons_zero, List.getElem_cons_succ]
  refine' wpAnyH_take (i := 2) (v := _) rfl (by kernel_rfl) (by kernel_rfl) (by kernel_rfl) (fun _ _ _ h => h) (Or.inl ⟨by rfl, ?_⟩) (by assumption) ?_
  rotate_left 1
  · (intro w0 hSw; (try dsimp only at hSw); go_split_ands; go_simp; (try with_reducible rfl))
  try simp only [Act.put, List.setIfInBounds_toArray, List.set_cons_zero, List.set_cons_succ, List.getElem_toArray, List.getElem_cons_zero, List.getElem_cons_succ]
  refine' wpAnyH_take (i := 3) (v := _) rfl (by kernel_rfl) (by kernel_rfl) (by kernel_rfl) (fun _ _ _ h => h) (Or.inl ⟨by rfl, ?_⟩) (by assumption) ?_
  rotate_left 1
  · (intro w0 hSw; (try dsimp only at hSw); go_split_ands; go_simp; (try with_reducible rfl))
  try simp only [Act.put, List.setIfInBounds_toArray, List.set_cons_zero, List.set_cons_succ, List.getElem_toArray, List.getElem_cons_zero, List.getElem_cons_succ]
  refine hc_take (i := 4) (v := .int .i64 ep) rfl (by kernel_rfl) (by kernel_rfl) (by kernel_rfl) (fun _ _ _ h => h) (yieldsC_call (by rfl) 49 _ _ rfl Tryd.f49 Tryd.func49 (by kernel_rfl) rfl #[.pointer (some ⟨b, 0, none⟩)] (by simp [Act.eval]) (fun w0 hS => CE.out w0 hS.2.2)) (by assumption) ?_
  try simp only [Act.put, List.setIfInBounds_toArray, List.set_cons_zero, List.set_cons_succ, List.getElem_toArray, List.getElem_cons_zero, List.getElem_cons_succ]
  refine' wpAnyH_take (i := 5) (v := _) rfl (by kernel_rfl) (by kernel_rfl) (by kernel_rfl) (fun _ _ _ h => h) (Or.inl ⟨by rfl, ?_⟩) (by assumption) ?_
  rotate_left 1
  · (intro w0 hSw; (try dsimp only at hSw); go_split_ands; go_simp; (try with_reducible rfl))
  try simp only [Act.put, List.setIfInBounds_toArray, List.set_cons_zero, List.set_cons_succ, List.getElem_toArray, List.getElem_cons_zero, List.getElem_cons_succ]
  refine' wpAnyH_take (i := 6) (v := _) rfl (by kernel_rfl) (by kernel_rfl) (by kernel_rfl) (fun _ _ _ h => h) (Or.inl ⟨by rfl, ?_⟩) (by assumption) ?_
  rotate_left 1
  · (intro w0 hSw; (try dsimp only at hSw); go_split_ands; go_simp; (try with_reducible rfl))
  try simp only [Act.put, List.setIfInBounds_toArray, List.set_cons_zero, List.set_cons_succ, List.getElem_toArray, List.getElem_cons_zero, List.getElem_cons_succ]
  refine' wpAnyH_take (i := 7) (v := _) rfl (by kernel_rfl) (by kernel_rfl) (by kernel_rfl) (fun _ _ _ h => h) (Or.inl ⟨by rfl, ?_⟩) (by assumption) ?_
  rotate_left 1
  · (intro w0 hSw; (try dsimp only at hSw); go_split_ands; go_simp; (try with_reducible rfl))
  try simp only [Act.put, List.setIfInBounds_toArray, List.set_cons_zero, List.set_cons_succ, List.getElem_toArray, List.getElem_cons_zero, List.getElem_cons_succ]
  refine' wpAnyH_take (i := 8) (v := _) rfl (by kernel_rfl) (by kernel_rfl) (by kernel_rfl) (fun _ _ _ h => h) (Or.inl ⟨by rfl, ?_⟩) (by assumption) ?_
  rotate_left 1
  · (intro w0 hSw; (try dsimp only at hSw); go_split_ands; go_simp; (try with_reducible rfl))
  try simp only [Act.put, List.setIfInBounds_toArray, List.set_cons_zero, List.set_cons_succ, List.getElem_toArray, List.getElem_cons_zero, List.getElem_cons_succ]
  refine' wpAnyH_take (i := 9) (v := _) rfl (by kernel_rfl) (by kernel_rfl) (by kernel_rfl) (fun _ _ _ h => h) (Or.inl ⟨by rfl, ?_⟩) (by assumption) ?_
  rotate_left 1
  · (intro w0 hSw; (try dsimp only at hSw); go_split_ands; go_simp; (try with_reducible rfl))
  try simp only [Act.put, List.setIfInBounds_toArray, List.set_cons_zero, List.set_cons_succ, List.getElem_toArray, List.getElem_cons_zero, List.getElem_cons_succ]
  refine' wpAnyH_take (i := 10) (v := _) rfl (by kernel_rfl) (by kernel_rfl) (by kernel_rfl) (fun _ _ _ h => h) (Or.inl ⟨by rfl, ?_⟩) (by assumption) ?_
  rotate_left 1
  · (intro w0 hSw; (try dsimp only at hSw); go_split_ands; go_simp; (try with_reducible rfl))
  try simp only [Act.put, List.setIfInBounds_toArray, List.set_cons_zero, List.set_cons_succ, List.getElem_toArray, List.getElem_cons_zero, List.getElem_cons_succ]
  refine wpAnyH_done (by kernel_rfl) ?_ _
  clear hHeld CE
  have k0 : w.drew.cell? ⟨bf, 0, none⟩ = some (.pointer (some ⟨b, 0, none⟩)) := c0
  have k8 : w.drew.cell? ⟨b, 8, none⟩ = some (.bool dd) := d8
  have CP := Lib.hid (dPower_any k8)
  by_cases h : ep = mi
  · subst h
    cases dd with
    | true =>
      have HU := Lib.hid (show L = 2 by rw [HL.out]; simp)
      clear HL
      go_wp2_with (go_at_call 40; refine CP.out.mono ?_; rintro e w' ⟨rfl, rfl⟩)
      go_ret
      exact ⟨by rw [HU.out]; rfl, (Keeps.refl _ _).drew⟩
    | false =>
      have HU := Lib.hid (show L = 0 by rw [HL.out]; simp)
      clear HL
      go_wp2_with (go_at_call 40; refine CP.out.mono ?_; rintro e w' ⟨rfl, rfl⟩)
      go_ret
      exact ⟨by rw [HU.out]; rfl, (Keeps.refl _ _).drew⟩
  · have HU := Lib.hid (show L = 3 by rw [HL.out, if_pos h])
    have q : (ep != mi) = true := by simpa using h
    clear HL CP
    go_wp2_with fail
    go_ret
    exact ⟨by rw [HU.out]; rfl, (Keeps.refl _ _).drew⟩
end Go.Proofs.YtojlojdkhegbkaaDoor

/-
  Package file: slots, lay and what it makes.
-/
namespace Go.Proofs.YtojlojdkhegbkaaDoor
set_option linter.unusedVariables false
set_option linter.unusedSimpArgs false
open Go.RowKit

theorem From.not {w : World} {F F' : List Nat} {g : Nat} (h : From w F F') (h1 : g ∉ F) (h2 : g < w.heap.size) : g ∉ F' := fun hg => (h g hg).elim h1 (fun hle => by omega)
theorem DiskAt.notin {w : World} {b : Nat} {d : D} {F : List Nat} {g : Nat} (h : DiskAt w b d F) (hg : w.heap.size ≤ g) : g ∉ F := fun hm => by have := h.lt g hm; omega
set_option maxRecDepth 100000 in
set_option maxHeartbeats 800000 in
theorem slots_any {w : World} {b : Nat} {d : D} {F : List Nat} (hd : DiskAt w b d F) (hp : d.dead = false) :
    Calls Tryd.prog 41 #[.pointer (some ⟨b, 0, none⟩)] w fun e w' => e = .returned (.tuple #[supV (chooseL (d.read 0) (d.read 1)).2, .int .i64 (chooseL (d.read 0) (d.read 1)).1]) ∧ DStep w b F { d with reads := wrap64 (wrap64 (d.reads + 1) + 1) } w' := by
  obtain ⟨R, hR⟩ : ∃ R, R = chooseL (d.read 0) (d.read 1) := ⟨_, rfl⟩
  rw [← hR]
  have hn := hd.ok.1
  obtain ⟨w0, hw0⟩ : ∃ w0, w0 = w.alloc (.cells #[.int .i64 0, .int .i64 0, .int .i64 0, .int .i64 0, .int .i64 0] 47 (0, 0)) := ⟨_, rfl⟩
  obtain ⟨g0, hg0⟩ : ∃ g, g = w.heap.size := ⟨_, rfl⟩
  have hz0 : SupAt w0 g0 zSup := by rw [hw0]; exact heap_new_at hg0
  have hk0 : Keeps [] w w0 := by rw [hw0]; exact (Keeps.refl _ _).alloc _
  have hs0 : g0 < w0.heap.size := lt_of_heap hz0
  have hd0 := hd.keeps hk0 (by simp)
  have nF : g0 ∉ F := hd.notin (by omega)
  obtain ⟨_, _, d8, _, _⟩ := hd0.dcells
  rw [hp] at d8
  have CP := Lib.hid (dPower_any d8)
  have C1 := Lib.hid (dRead_step 0 hd0 hp (by omega))
  have HR := Lib.hid hR
  have HW0 := Lib.hid hw0
  have HG := Lib.hid hg0
  have HK0 := Lib.hid hk0
  have HZ0 := Lib.hid hz0
  have HS0 := Lib.hid hs0
  have NF := Lib.hid nF
  have HP := Lib.hid hp
  have HN := Lib.hid hn
  have HD0 := Lib.hid hd0
  clear hd hR hw0 hg0 hz0 hk0 hs0 hd0 nF hp hn d8
  go_enter Tryd.func41, Tryd.ntmps41
  go_upto_region 1 with fail
  rw [← HW0.out, ← HG.out]
  go_wp2_with (go_at_call 40; refine CP.out.mono ?_; rintro e w' ⟨rfl, rfl⟩)
  refine C1.out.mono ?_
  rintro e w1 ⟨ga, ca, rfl, hga, hoa, hd1, hk1⟩
  have hz1 := HZ0.out.keeps hk1 NF.out
  have nA : ga ∉ F := HD0.out.notin hga
  have C2 := Lib.hid (dRead_step 1 hd1 (by exact HP.out) (by have := HN.out; show 1 < d.n; omega))
  have HOA := Lib.hid hoa
  have HK1 := Lib.hid hk1
  have HZ1 := Lib.hid hz1
  have NA := Lib.hid nA
  clear hoa hk1 hz1 nA hd1 hga C1 CP
  go_wp2_with fail
  refine C2.out.mono ?_
  rintro e w2 ⟨gb, cb, rfl, hgb, hob, hd2, hk2⟩
  have hoa2 : OwnB w2 (.slice (some ⟨ga, 0, none⟩) 256 ca) (d.read 0) := ownsRow_keep HOA.out (fun k hk => by
    simp only [Value.ownBlock, Option.some.injEq] at hk
    subst hk
    exact hk2.block _ (World.ownsRow.lt HOA.out _ (by rfl)).2 NA.out)
  have C3 := Lib.hid (choose_any (ownB_bytes hoa2) (ownB_bytes hob))
  have hz2 := HZ1.out.keeps hk2 NF.out
  have HZ2 := Lib.hid hz2
  have HD2 := Lib.hid hd2
  have HK2 := Lib.hid (HK1.out.trans (G := F) hk2 (fun k hk => .inl hk))
  clear hob hoa2 hz2 hd2 hk2 hgb HOA HZ1 HK1 C2
  have e1 : ({ d with reads := wrap64 (d.reads + 1) } : D).read 1 = d.read 1 := rfl
  rw [e1, ← HR.out] at C3
  clear e1
  go_wp2_with fail
  refine C3.out.mono ?_
  rintro e w3 ⟨rfl, hk3⟩
  obtain ⟨st, ss⟩ := (HZ2.out.keeps hk3 (by simp)).store R.2
  have ST := Lib.hid st
  have SS := Lib.hid ss
  have HK3 := Lib.hid hk3
  clear hk3 st ss C3
  go_wp2_with (first | (refine wl_store rfl 47 (.tmp 2) (.tmp 32) rfl ?_; refine ⟨_, ST.out, ?_⟩; try simp only [Act.put, List.setIfInBounds_toArray, List.set_cons_zero, List.set_cons_succ, List.getElem_toArray, List.getElem_cons_zero, List.getElem_cons_succ]))
  refine bodyPost_ret (results_sup2 rfl rfl rfl SS.out) rfl ⟨rfl, F, ?_, From.refl _ _, ?_⟩
  · have h3 := HD2.out.keeps HK3.out (by simp)
    exact h3.keep (fun k hk => heap_setCells_other _ _ _ (fun e => by subst e; exact NF.out hk) _ _)
  · have k1 : Keeps F w w0 := HK0.out.mono (by simp)
    have k2 : Keeps F w w3 := (k1.trans (G := F) HK2.out (fun k hk => .inl hk)).trans (G := []) HK3.out (by simp)
    exact k2.setCells (b := g0) (.inr (Nat.le_of_eq HG.out.symm)) _ _
end Go.Proofs.YtojlojdkhegbkaaDoor

/-
  Package file: lay, the step that it makes.
-/
namespace Go.Proofs.YtojlojdkhegbkaaDoor
set_option linter.unusedVariables false
set_option linter.unusedSimpArgs false
open Go.RowKit

/-- What a step that lays a superblock holds: the superblock at gs, the disk's pointer at gd. -/
structure Laid (w : World) (gs gd b : Nat) (s : Sup) : Prop where
  sup : SupAt w gs s
  ptr : w.heap[gd]? = some (.cells #[.pointer (some ⟨b, 0, none⟩)] 33 (0, 0))
theorem Laid.keeps {w w' : World} {gs gd b : Nat} {s : Sup} {F : List Nat} (h : Laid w gs gd b s) (hk : Keeps F w w') (h1 : gs ∉ F) (h2 : gd ∉ F) : Laid w' gs gd b s :=
  ⟨h.sup.keeps hk h1, (hk.block gd (lt_of_heap h.ptr) h2).trans h.ptr⟩
def layFn (gs gd : Nat) : Value := .func (.func 58) #[] #[.pointer (some ⟨gs, 0, none⟩), .pointer (some ⟨gd, 0, none⟩)]
theorem lay_any {w : World} {b : Nat} (s : Sup) :
    Calls Tryd.prog 44 #[.pointer (some ⟨b, 0, none⟩), supV s] w fun e w' => ∃ gs gd, e = .returned (layFn gs gd) ∧ Laid w' gs gd b s ∧ w.heap.size ≤ gs ∧ w.heap.size ≤ gd ∧ Keeps [] w w' := by
  have hmf : ∀ (fn : Fn) (first cap : Array Value) (w : World), (Instr.makeFunc fn first cap).run Tryd.prog w = .ok (.func fn first cap) w := fun _ _ _ _ => rfl
  show Calls Tryd.prog 44 #[_, .agg #[.int .i64 s.width, .int .i64 s.gen, .int .i64 s.mark, .int .i64 s.head, .int .i64 s.pages]] w _
  go_enter Tryd.func44, Tryd.ntmps44
  go_wp2_with fail
  go_ret
  refine ⟨w.heap.size + 1, w.heap.size, rfl, ⟨heap_new_at (by simp), (heap_old_at (by simp)).trans (heap_new_at rfl)⟩, by omega, Nat.le_refl _, ((Keeps.refl _ _).alloc _).alloc _⟩
set_option maxRecDepth 100000 in
set_option maxHeartbeats 800000 in
theorem layIn_any {w : World} {gs gd b : Nat} {s : Sup} {d : D} {F : List Nat} (hL : Laid w gs gd b s) (hs : s.valid = true) (hd : DiskAt w b d F) (hp : d.dead = false) (hq : d.q.length < 4294967296) :
    Calls Tryd.prog 58 #[.pointer (some ⟨gs, 0, none⟩), .pointer (some ⟨gd, 0, none⟩)] w fun e w' => e = .returned (.int .i64 (if d.armed = 1 then 2 else 0)) ∧ DStep w b F (d.write (s.gen % 2).toNat (supL s)) w' := by
  have hn := hd.ok.1
  have hlt := hd.lt
  obtain ⟨hg0, hg1⟩ := valid_inGen hs
  obtain ⟨m, hm⟩ : ∃ m : Nat, (m : Int) = s.gen % 2 := ⟨(s.gen % 2).toNat, by omega⟩
  have hm2 : m < 2 := by omega
  have em : (s.gen % 2).toNat = m := by omega
  rw [em]
  have CP := Lib.hid (packSuper_any (w := w) hs)
  have HLD := Lib.hid hL.sup.load
  have HL := Lib.hid hL
  have HD := Lib.hid hd
  have HM := Lib.hid hm
  have HP := Lib.hid hp
  have HQ := Lib.hid hq
  have HLT := Lib.hid hlt
  have HN := Lib.hid hn
  have HM2 := Lib.hid hm2
  clear hL hs hd hp hq hm hn hlt hg1 em hm2
  go_enter Tryd.func58, Tryd.ntmps58
  go_wp2_with (first | (refine wl_load rfl 47 (.tmp 0) rfl ?_; refine ⟨_, _, HLD.out, ?_⟩; try simp only [Act.put, List.setIfInBounds_toArray, List.set_cons_zero, List.set_cons_succ, List.getElem_toArray, List.getElem_cons_zero, List.getElem_cons_succ]))
  refine CP.out.mono ?_
  rintro e w1 ⟨g, rfl, hb, hg, hk⟩
  have hL1 := HL.out.keeps hk (by simp) (by simp)
  have cd : w1.cell? ⟨gd, 0, none⟩ = some (.pointer (some ⟨b, 0, none⟩)) := by rw [cell_of_row w1 gd 0 _ _ _ hL1.ptr]; rfl
  have cg := hL1.sup.cells.2.1
  have hd1 := HD.out.keeps hk (by simp)
  have CW := Lib.hid (dWrite_step (w := w1) m (g := g) (o := 0) (c := 256) (data := supL s) hd1 HP.out (by have := HN.out; have := HM2.out; omega) (supL_length s) hb.lt (rangeAt_all hb) (Nat.le_refl _) HQ.out)
  have hm' : s.gen % 2 = (m : Int) := HM.out.symm
  have HK := Lib.hid hk
  clear hb hg hk hL1 hd1 CP HLD
  go_wp2_with fail
  refine CW.out.mono ?_
  rintro e w2 ⟨rfl, hst⟩
  have HST := Lib.hid hst
  clear hst CW
  go_wp2_with fail
  all_goals
    go_ret
    refine ⟨rfl, ?_⟩
    exact HST.out.trans (F1 := F) (From.refl _ _) (HK.out.mono (by simp))
end Go.Proofs.YtojlojdkhegbkaaDoor

/-
  Package file: inOrder of four steps on a disk that is not armed.
-/
namespace Go.Proofs.YtojlojdkhegbkaaDoor
set_option linter.unusedVariables false
set_option linter.unusedSimpArgs false
open Go.RowKit

def syncFn (b : Nat) : Value := .func (.func 10) #[.pointer (some ⟨b, 0, none⟩)] #[]
/-- Power is on and stays. -/
structure D.calm (d : D) : Prop where
  dead : d.dead = false
  armed : d.armed = 0
theorem D.calm.act {d : D} (h : d.calm) : d.act = d := by simp [D.act, h.armed]
theorem D.calm.write {d : D} (h : d.calm) (p : Nat) (x : List UInt8) : (d.write p x).calm ∧ d.write p x = { d with q := d.q ++ [(p, x)], writes := wrap64 (d.writes + 1) } := by
  have e : d.write p x = { d with q := d.q ++ [(p, x)], writes := wrap64 (d.writes + 1) } := by
    unfold D.write
    exact D.calm.act ⟨h.dead, h.armed⟩
  exact ⟨by rw [e]; exact ⟨h.dead, h.armed⟩, e⟩
theorem D.calm.sync {d : D} (h : d.calm) : d.sync.calm ∧ d.sync = { d with img := synced d.img d.q, q := [], syncs := wrap64 (d.syncs + 1) } := by
  have e : d.sync = { d with img := synced d.img d.q, q := [], syncs := wrap64 (d.syncs + 1) } := by
    unfold D.sync
    rw [h.act]
  exact ⟨by rw [e]; exact ⟨h.dead, h.armed⟩, e⟩
def slot (s : Sup) : Nat := (s.gen % 2).toNat
/-- The disk behind k of the four steps. -/
def stepD (d : D) (s1 s2 : Sup) : Nat → D
  | 0 => d
  | 1 => d.write (slot s1) (supL s1)
  | 2 => (d.write (slot s1) (supL s1)).sync
  | 3 => ((d.write (slot s1) (supL s1)).sync).write (slot s2) (supL s2)
  | _ => (((d.write (slot s1) (supL s1)).sync).write (slot s2) (supL s2)).sync
theorem stepD_calm {d : D} (h : d.calm) (s1 s2 : Sup) : ∀ k, (stepD d s1 s2 k).calm
  | 0 => h
  | 1 => (h.write _ _).1
  | 2 => (h.write _ _).1.sync.1
  | 3 => ((h.write _ _).1.sync.1.write _ _).1
  | 4 => ((h.write _ _).1.sync.1.write _ _).1.sync.1
  | _ + 5 => ((h.write _ _).1.sync.1.write _ _).1.sync.1
set_option maxRecDepth 100000 in
set_option maxHeartbeats 800000 in
theorem inOrder_four {w : World} {gq g1 e1 g2 e2 b : Nat} {s1 s2 : Sup} {d : D} {F : List Nat} (hq : w.heap[gq]? = some (.cells #[layFn g1 e1, syncFn b, layFn g2 e2, syncFn b] 101 (0, 0))) (h1 : Laid w g1 e1 b s1) (h2 : Laid w g2 e2 b s2)
    (v1 : s1.valid = true) (v2 : s2.valid = true) (hd : DiskAt w b d F) (hc : d.calm) (hl : d.q.length < 4294967295) (nq : gq ∉ F) (n1 : g1 ∉ F ∧ e1 ∉ F) (n2 : g2 ∉ F ∧ e2 ∉ F) :
    Calls Tryd.prog 43 #[.slice (some ⟨gq, 0, none⟩) 4 4] w fun e w' => e = .returned (.int .i64 0) ∧ DStep w b F (stepD d s1 s2 4) w' := by
  have hcell : ∀ wx, Keeps F w wx → wx.cell? ⟨gq, 0, none⟩ = some (.func (.func 58) #[] #[.pointer (some ⟨g1, 0, none⟩), .pointer (some ⟨e1, 0, none⟩)]) ∧ wx.cell? ⟨gq, 1, none⟩ = some (.func (.func 10) #[.pointer (some ⟨b, 0, none⟩)] #[]) ∧ wx.cell? ⟨gq, 2, none⟩ = some (.func (.func 58) #[] #[.pointer (some ⟨g2, 0, none⟩), .pointer (some ⟨e2, 0, none⟩)]) ∧ wx.cell? ⟨gq, 3, none⟩ = some (.func (.func 10) #[.pointer (some ⟨b, 0, none⟩)] #[]) ∧ Laid wx g1 e1 b s1 ∧ Laid wx g2 e2 b s2 := fun wx hk => by
    have h := (hk.block gq (lt_of_heap hq) nq).trans hq
    refine ⟨?_, ?_, ?_, ?_, h1.keeps hk n1.1 n1.2, h2.keeps hk n2.1 n2.2⟩ <;> (rw [cell_of_row wx gq _ _ _ _ h]; rfl)
  have HC := Lib.hid hcell
  have HD := Lib.hid hd
  have HCM := Lib.hid hc
  have HV := Lib.hid (And.intro v1 v2)
  have HL := Lib.hid hl
  clear hq h1 h2 v1 v2 hd hc nq n1 n2 hcell hl
  go_enter Tryd.func43, Tryd.ntmps43
  go_wp2_with fail
  go_loopw [8] (fun iv wr => ∃ (k : Nat) (Fk : List Nat), k ≤ 4 ∧ iv = .int .i64 k ∧ DiskAt wr b (stepD d s1 s2 k) Fk ∧ From w F Fk ∧ Keeps F w wr) (fun iv _ => 4 - (intOf iv).toNat)
  case atStart => exact ⟨0, F, Nat.zero_le _, rfl, HD.out, From.refl _ _, Keeps.refl _ _⟩
  case round =>
    obtain ⟨k, Fk, hk, rfl, hdk, hfk, hkk⟩ := hrel
    obtain ⟨c0, c1, c2, c3, l1, l2⟩ := HC.out wr hkk
    have HDK := Lib.hid hdk
    have HFK := Lib.hid hfk
    have HKK := Lib.hid hkk
    have L1 := Lib.hid l1
    have L2 := Lib.hid l2
    have cm := Lib.hid (stepD_calm HCM.out s1 s2 k)
    clear hdk hfk hkk l1 l2
    match k, hk with
    | 0, _ =>
      have C := Lib.hid (layIn_any L1.out HV.out.1 HDK.out cm.out.dead (by have := HL.out; show d.q.length < _; omega))
      have ha : (stepD d s1 s2 0).armed = 0 := cm.out.armed
      rw [ha] at C
      clear c1 c2 c3 cm ha
      go_wp2_with fail
      refine C.out.mono ?_
      rintro e w1 ⟨rfl, F1, hd1, hf1, hk1⟩
      have HR := Lib.hid (And.intro hd1 (And.intro (HFK.out.trans hf1 HKK.out.size) (HKK.out.trans hk1 HFK.out)))
      clear hd1 hf1 hk1 C
      go_wp2_with fail
      go_roundw
      case rel => exact ⟨1, F1, by omega, by go_num, HR.out⟩
      case measure => simp [intOf]
    | 1, _ =>
      have C := Lib.hid (dSync_step HDK.out cm.out.dead (by rw [cm.out.armed]; omega))
      clear c0 c2 c3 cm
      go_wp2_with fail
      refine C.out.mono ?_
      rintro e w1 ⟨rfl, F1, hd1, hf1, hk1⟩
      have HR := Lib.hid (And.intro hd1 (And.intro (HFK.out.trans hf1 HKK.out.size) (HKK.out.trans hk1 HFK.out)))
      clear hd1 hf1 hk1 C
      go_wp2_with fail
      go_roundw
      case rel => exact ⟨2, F1, by omega, by go_num, HR.out⟩
      case measure => simp [intOf]
    | 2, _ =>
      have C := Lib.hid (layIn_any L2.out HV.out.2 HDK.out cm.out.dead (by show ([] : List (Nat × List UInt8)).length < _; simp))
      have ha : (stepD d s1 s2 2).armed = 0 := cm.out.armed
      rw [ha] at C
      clear c0 c1 c3 cm ha
      go_wp2_with fail
      refine C.out.mono ?_
      rintro e w1 ⟨rfl, F1, hd1, hf1, hk1⟩
      have HR := Lib.hid (And.intro hd1 (And.intro (HFK.out.trans hf1 HKK.out.size) (HKK.out.trans hk1 HFK.out)))
      clear hd1 hf1 hk1 C
      go_wp2_with fail
      go_roundw
      case rel => exact ⟨3, F1, by omega, by go_num, HR.out⟩
      case measure => simp [intOf]
    | 3, _ =>
      have C := Lib.hid (dSync_step HDK.out cm.out.dead (by rw [cm.out.armed]; omega))
      clear c0 c1 c2 cm
      go_wp2_with fail
      refine C.out.mono ?_
      rintro e w1 ⟨rfl, F1, hd1, hf1, hk1⟩
      have HR := Lib.hid (And.intro hd1 (And.intro (HFK.out.trans hf1 HKK.out.size) (HKK.out.trans hk1 HFK.out)))
      clear hd1 hf1 hk1 C
      go_wp2_with fail
      go_roundw
      case rel => exact ⟨4, F1, by omega, by go_num, HR.out⟩
      case measure => simp [intOf]
    | 4, _ =>
      clear c0 c1 c2 c3 cm
      go_wp2_with fail
      go_ret
      exact ⟨rfl, Fk, HDK.out, HFK.out, HKK.out⟩
end Go.Proofs.YtojlojdkhegbkaaDoor

/-
  Package file: Format of a blank disk.
-/
namespace Go.Proofs.YtojlojdkhegbkaaDoor
set_option linter.unusedVariables false
set_option linter.unusedSimpArgs false
open Go.RowKit

theorem info_step : (Tryd.prog.info? 101).map (fun i => (i.zero, i.size, i.bytes)) = some (some .nilFunc, 1, 8) := by kernel_rfl
theorem run_buildSlice_steps (w : World) (n1 n2 n3 n4 : Fn) (x1 y1 x2 y2 x3 y3 x4 y4 : Array Value) : (Instr.buildSlice 132 4 #[(0, .func n1 x1 y1), (1, .func n2 x2 y2), (2, .func n3 x3 y3), (3, .func n4 x4 y4)]).run Tryd.prog w = .ok (.slice (some ⟨w.heap.size, 0, none⟩) 4 4) (w.alloc (.cells #[.func n1 x1 y1, .func n2 x2 y2, .func n3 x3 y3, .func n4 x4 y4] 101 (0, 0))) := by
  obtain ⟨i, hi, h1, h2, h3⟩ := info_parts info_step
  refine run_buildSlice w _ _ _ _ _ i .nilFunc Tryd.underlying132 hi h1 (by rw [h2]; omega) (by rw [h2]; omega) ?_
  rw [h2]
  kernel_rfl
def supA (width n : Int) : Sup := ⟨width, 0, 2, 0, n⟩
def supB (width n : Int) : Sup := ⟨width, 1, 2, 0, n⟩
theorem supA_valid {width n : Nat} (h1 : 1 ≤ width) (h2 : width ≤ 32) (h3 : 3 ≤ n) (h4 : n ≤ 4096) : (supA width n).valid = true := by
  unfold supA Sup.valid
  simp only [Bool.and_eq_true, Bool.or_eq_true, decide_eq_true_eq]
  refine ⟨⟨⟨⟨⟨⟨⟨⟨?_, ?_⟩, ?_⟩, ?_⟩, ?_⟩, ?_⟩, ?_⟩, ?_⟩, .inl trivial⟩ <;> omega
theorem supB_valid {width n : Nat} (h1 : 1 ≤ width) (h2 : width ≤ 32) (h3 : 3 ≤ n) (h4 : n ≤ 4096) : (supB width n).valid = true := by
  unfold supB Sup.valid
  simp only [Bool.and_eq_true, Bool.or_eq_true, decide_eq_true_eq]
  refine ⟨⟨⟨⟨⟨⟨⟨⟨?_, ?_⟩, ?_⟩, ?_⟩, ?_⟩, ?_⟩, ?_⟩, ?_⟩, .inl trivial⟩ <;> omega
/-- A disk behind Format. -/
def fmtD (d : D) (width : Nat) : D := stepD { d with reads := wrap64 (wrap64 (d.reads + 1) + 1) } (supA width d.n) (supB width d.n) 4
set_option maxRecDepth 100000 in
set_option maxHeartbeats 1600000 in
theorem format_blank {w : World} {b : Nat} {d : D} {F : List Nat} {width : Nat} (hd : DiskAt w b d F) (hc : d.calm) (hq : d.q = []) (hbl : chooseL (d.read 0) (d.read 1) = (55, zSup)) (h1 : 1 ≤ width) (h2 : width ≤ 32) :
    Calls Tryd.prog 22 #[.pointer (some ⟨b, 0, none⟩), .int .i64 width] w fun e w' => e = .returned (.int .i64 0) ∧ DStep w b F (fmtD d width) w' := by
  have hmf : ∀ (fn : Fn) (first cap : Array Value) (w : World), (Instr.makeFunc fn first cap).run Tryd.prog w = .ok (.func fn first cap) w := fun _ _ _ _ => rfl
  obtain ⟨hn3, hn4, _⟩ := hd.ok
  obtain ⟨n, hn⟩ : ∃ n, n = d.n := ⟨_, rfl⟩
  obtain ⟨d1, hd1⟩ : ∃ d1 : D, d1 = { d with reads := wrap64 (wrap64 (d.reads + 1) + 1) } := ⟨_, rfl⟩
  have hc1 : d1.calm := by rw [hd1]; exact ⟨hc.dead, hc.armed⟩
  have CS := slots_any hd hc.dead
  rw [hbl, ← hd1] at CS
  obtain ⟨_, _, d8, _, _⟩ := hd.dcells
  rw [hc.dead] at d8
  have CP := Lib.hid (dPower_any d8)
  have hE : fmtD d width = stepD d1 (supA width n) (supB width n) 4 := by rw [hd1, hn]; rfl
  obtain ⟨E, hE'⟩ : ∃ E, E = fmtD d width := ⟨_, rfl⟩
  rw [← hE'] at hE ⊢
  have hn1 : d1.n = n := by rw [hd1, hn]
  have hq1 : d1.q = [] := by rw [hd1]; exact hq
  have HE := Lib.hid hE
  have HC1 := Lib.hid hc1
  have HN1 := Lib.hid hn1
  have HQ1 := Lib.hid hq1
  rw [← hn] at hn3 hn4
  have HV := Lib.hid (And.intro (supA_valid h1 h2 hn3 hn4) (supB_valid h1 h2 hn3 hn4))
  have CS' := Lib.hid CS
  have HD := Lib.hid hd
  have b1 : (1 : Int) ≤ (width : Int) := by omega
  have b2 : (width : Int) ≤ 32 := by omega
  clear hd hc hq hbl hn3 hn4 hn hd1 hc1 CS d8 hE hE' hn1 hq1 h1 h2
  go_enter Tryd.func22, Tryd.ntmps22
  go_wp2_with (go_at_call 40; refine CP.out.mono ?_; rintro e w' ⟨rfl, rfl⟩)
  refine CS'.out.mono ?_
  rintro e w1 ⟨rfl, F1, hdd, hf1, hk1⟩
  obtain ⟨w2, hw2⟩ : ∃ w2, w2 = w1.alloc (.cells (supC zSup).toArray 47 (0, 0)) := ⟨_, rfl⟩
  have hst2 := run_storeAt_new (P := Tryd.prog) w1 47 #[.int .i64 0, .int .i64 0, .int .i64 0, .int .i64 0, .int .i64 0] (supC zSup).toArray (by rw [size_super]; rfl) rfl (all_oneCell_toArray (supC_one _))
  have hk12 : Keeps [] w1 w2 := by rw [hw2]; exact (Keeps.refl _ _).alloc _
  have hdd2 := hdd.keeps hk12 (by simp)
  obtain ⟨bp, d4, _, _, _⟩ := hdd2.dcells
  rw [HN1.out] at d4
  have CG := Lib.hid (dPages_any d4)
  have HST2 := Lib.hid hst2
  have HW2 := Lib.hid hw2
  have HD2 := Lib.hid hdd2
  have HF1 := Lib.hid hf1
  have HK1 := Lib.hid hk1
  have HK12 := Lib.hid hk12
  clear hst2 hw2 hdd2 hf1 hk1 hk12 hdd d4 CP CS'
  go_upto_region 8 with (first | (refine wl_store rfl 47 (.tmp 5) (.tmp 23) rfl ?_; refine ⟨_, HST2.out, ?_⟩; try simp only [Act.put, List.setIfInBounds_toArray, List.set_cons_zero, List.set_cons_succ, List.getElem_toArray, List.getElem_cons_zero, List.getElem_cons_succ]))
  rw [show w1.alloc (.cells (supC zSup).toArray 47) = w2 from HW2.out.symm]
  obtain ⟨gA, hgA⟩ : ∃ g, g = w2.heap.size := ⟨_, rfl⟩
  obtain ⟨gB, hgB⟩ : ∃ g, g = w2.heap.size + 1 := ⟨_, rfl⟩
  obtain ⟨w3, hw3⟩ : ∃ w3, w3 = (w2.alloc (.cells #[.int .i64 width, .int .i64 0, .int .i64 2, .int .i64 0, .int .i64 n] 47 (0, 0))).alloc (.cells #[.int .i64 width, .int .i64 1, .int .i64 2, .int .i64 0, .int .i64 n] 47 (0, 0)) := ⟨_, rfl⟩
  have sa : SupAt w3 gA (supA width n) := by rw [hw3]; exact (heap_old_at (by simp; omega)).trans (heap_new_at hgA)
  have sb : SupAt w3 gB (supB width n) := by rw [hw3]; exact heap_new_at (by simp; omega)
  have hk23 : Keeps [] w2 w3 := by rw [hw3]; exact ((Keeps.refl _ _).alloc _).alloc _
  have SA := Lib.hid sa
  have SB := Lib.hid sb
  have HW3 := Lib.hid hw3
  have HGA := Lib.hid hgA
  have HGB := Lib.hid hgB
  have HK3 := Lib.hid hk23
  clear sa sb hw3 hgA hgB hk23
  go_upto_region 13 with (go_at_call 42; refine CG.out.mono ?_; rintro e w' ⟨rfl, rfl⟩)
  rw [← HW3.out, ← HGB.out, ← HGA.out]
  have nA : gA ∉ F1 := HD2.out.notin (Nat.le_of_eq HGA.out.symm)
  have nB : gB ∉ F1 := HD2.out.notin (by have := HGB.out; omega)
  have NA := Lib.hid nA
  have NB := Lib.hid nB
  clear nA nB
  refine wp_region_held_drew (S := (fun w' => SupAt w' gA (supA width n) ∧ SupAt w' gB (supB width n))) (by kernel_rfl) ?_ (fun hHeld => ?_)
  · exact ⟨SA.out, SB.out⟩
  refine' wpAnyH_take (i := 0) (v := _) rfl (by kernel_rfl) (by kernel_rfl) (by kernel_rfl) (fun _ _ _ h => h) (Or.inl ⟨by rfl, ?_⟩) (by assumption) ?_
  rotate_left 1
  · (intro w0 hSw; (try dsimp only at hSw); go_split_ands; go_simp; (try with_reducible rfl))
  try simp only [Act.put, List.setIfInBounds_toArray, List.set_cons_zero, List.set_cons_succ, List.getElem_toArray, List.getElem_cons_zero, List.getElem_cons_succ]
  refine' wpAnyH_take (i := 1) (v := _) rfl (by kernel_rfl) (by kernel_rfl) (by kernel_rfl) (fun _ _ _ h => h) (yieldsIf_load_mid (by rfl) 47 (.tmp 7) rfl gA 0 rfl (supC (supA width n)) _ (fun _ h => rangeAt_all h.1) Tryd.underlying47 rfl (by rw [size_super]; rfl)) (by assumption) ?_
  try simp only [Act.put, List.setIfInBounds_toArray, List.set_cons_zero, List.set_cons_succ, List.getElem_toArray, List.getElem_cons_zero, List.getElem_cons_succ]
  refine' wpAnyH_take (i := 3) (v := _) rfl (by kernel_rfl) (by kernel_rfl) (by kernel_rfl) (fun _ _ _ h => h) (Or.inl ⟨by rfl, ?_⟩) (by assumption) ?_
  rotate_left 1
  · (intro w0 hSw; (try dsimp only at hSw); go_split_ands; go_simp; (try with_reducible rfl))
  try simp only [Act.put, List.setIfInBounds_toArray, List.set_cons_zero, List.set_cons_succ, List.getElem_toArray, List.getElem_cons_zero, List.getElem_cons_succ]
  refine' wpAnyH_take (i := 4) (v := _) rfl (by kernel_rfl) (by kernel_rfl) (by kernel_rfl) (fun _ _ _ h => h) (Or.inl ⟨by rfl, ?_⟩) (by assumption) ?_
  rotate_left 1
  · (intro w0 hSw; (try dsimp only at hSw); go_split_ands; go_simp; (try with_reducible rfl))
  try simp only [Act.put, List.setIfInBounds_toArray, List.set_cons_zero, List.set_cons_succ, List.getElem_toArray, List.getElem_cons_zero, List.getElem_cons_succ]
  refine' wpAnyH_take (i := 5) (v := _) rfl (by kernel_rfl) (by kernel_rfl) (by kernel_rfl) (fun _ _ _ h => h) (Or.inl ⟨by rfl, ?_⟩) (by assumption) ?_
  rotate_left 1
  · (intro w0 hSw; (try dsimp only at hSw); go_split_ands; go_simp; (try with_reducible rfl))
  try simp only [Act.put, List.setIfInBounds_toArray, List.set_cons_zero, List.set_cons_succ, List.getElem_toArray, List.getElem_cons_zero, List.getElem_cons_succ]
  refine' wpAnyH_take (i := 6) (v := _) rfl (by kernel_rfl) (by kernel_rfl) (by kernel_rfl) (fun _ _ _ h => h) (yieldsIf_load_mid (by rfl) 47 (.tmp 8) rfl gB 0 rfl (supC (supB width n)) _ (fun _ h => rangeAt_all h.2) Tryd.underlying47 rfl (by rw [size_super]; rfl)) (by assumption) ?_
  try simp only [Act.put, List.setIfInBounds_toArray, List.set_cons_zero, List.set_cons_succ, List.getElem_toArray, List.getElem_cons_zero, List.getElem_cons_succ]
  refine' wpAnyH_take (i := 8) (v := _) rfl (by kernel_rfl) (by kernel_rfl) (by kernel_rfl) (fun _ _ _ h => h) (Or.inl ⟨by rfl, ?_⟩) (by assumption) ?_
  rotate_left 1
  · (intro w0 hSw; (try dsimp only at hSw); go_split_ands; go_simp; (try with_reducible rfl))
  try simp only [Act.put, List.setIfInBounds_toArray, List.set_cons_zero, List.set_cons_succ, List.getElem_toArray, List.getElem_cons_zero, List.getElem_cons_succ]
  refine' wpAnyH_take (i := 9) (v := _) rfl (by kernel_rfl) (by kernel_rfl) (by kernel_rfl) (fun _ _ _ h => h) (Or.inl ⟨by rfl, ?_⟩) (by assumption) ?_
  rotate_left 1
  · (intro w0 hSw; (try dsimp only at hSw); go_split_ands; go_simp; (try with_reducible rfl))
  try simp only [Act.put, List.setIfInBounds_toArray, List.set_cons_zero, List.set_cons_succ, List.getElem_toArray, List.getElem_cons_zero, List.getElem_cons_succ]
  clear hHeld
  refine wpAnyH_ready (rs := [2]) (by kernel_rfl) (by simp) ?_
  refine AllReadyH.cons rfl (fun K hK => ?_) AllReadyH.nil
  go_simp
  refine (lay_any (supA width n)).mono ?_
  rintro e w4 ⟨g1, e1, rfl, hl1, hg1, hg1', hk4⟩
  have hk34 : Keeps [] w3 w4 := ((Keeps.refl [] w3).drew).trans (G := []) hk4 (by simp)
  have HK4 := Lib.hid hk34
  have HL1 := Lib.hid hl1
  have HN1 := Lib.hid (show g1 ∉ F1 ∧ e1 ∉ F1 from ⟨HD2.out.notin (Nat.le_trans HK3.out.size hg1), HD2.out.notin (Nat.le_trans HK3.out.size hg1')⟩)
  clear hk4 hk34 hl1 hg1 hg1'
  refine hK.out _ _ ?_ (fun hHeld => ?_)
  · exact ⟨SA.out.keeps HK4.out (by simp), SB.out.keeps HK4.out (by simp)⟩
  clear hK K
  try simp only [Act.put, List.setIfInBounds_toArray, List.set_cons_zero, List.set_cons_succ, List.getElem_toArray, List.getElem_cons_zero, List.getElem_cons_succ]
  clear hHeld
  refine wpAnyH_ready (rs := [7]) (by kernel_rfl) (by simp) ?_
  refine AllReadyH.cons rfl (fun K hK => ?_) AllReadyH.nil
  go_simp
  refine (lay_any (supB width n)).mono ?_
  rintro e w5 ⟨g2, e2, rfl, hl2, hg2, hg2', hk5⟩
  have HL2 := Lib.hid hl2
  have HL1' := Lib.hid (HL1.out.keeps hk5 (by simp) (by simp))
  have HN2 := Lib.hid (show g2 ∉ F1 ∧ e2 ∉ F1 from ⟨HD2.out.notin (Nat.le_trans (Nat.le_trans HK3.out.size HK4.out.size) hg2), HD2.out.notin (Nat.le_trans (Nat.le_trans HK3.out.size HK4.out.size) hg2')⟩)
  have HK5 := Lib.hid (HK4.out.trans (G := []) hk5 (by simp))
  clear hk5 hl2 hg2 hg2' HL1
  refine hK.out _ _ ?_ (fun hHeld => ?_)
  · exact ⟨SA.out.keeps HK5.out (by simp), SB.out.keeps HK5.out (by simp)⟩
  clear hK K
  try simp only [Act.put, List.setIfInBounds_toArray, List.set_cons_zero, List.set_cons_succ, List.getElem_toArray, List.getElem_cons_zero, List.getElem_cons_succ]
  clear hHeld
  refine wpAnyH_ready (rs := [10]) (by kernel_rfl) (by simp) ?_
  refine AllReadyH.cons rfl (fun K hK => ?_) AllReadyH.nil
  (refine st_buildSlice rfl 132 4 #[(0, .tmp 35), (1, .tmp 37), (2, .tmp 40), (3, .tmp 42)] #[(0, layFn g1 e1), (1, .func (.func 10) #[.pointer (some ⟨b, 0, none⟩)] #[]), (2, layFn g2 e2), (3, .func (.func 10) #[.pointer (some ⟨b, 0, none⟩)] #[])] rfl (by simp [Act.eval]) ?_; refine ⟨_, _, run_buildSlice_steps _ _ _ _ _ _ _ _ _ _ _ _ _, ?_⟩; try simp only [Act.put, List.setIfInBounds_toArray, List.set_cons_zero, List.set_cons_succ, List.getElem_toArray, List.getElem_cons_zero, List.getElem_cons_succ])
  obtain ⟨w6, hw6⟩ : ∃ w6, w6 = w5.alloc (.cells #[.func (.func 58) #[] #[.pointer (some ⟨g1, 0, none⟩), .pointer (some ⟨e1, 0, none⟩)], .func (.func 10) #[.pointer (some ⟨b, 0, none⟩)] #[], .func (.func 58) #[] #[.pointer (some ⟨g2, 0, none⟩), .pointer (some ⟨e2, 0, none⟩)], .func (.func 10) #[.pointer (some ⟨b, 0, none⟩)] #[]] 101 (0, 0)) := ⟨_, rfl⟩
  obtain ⟨gq, hgq⟩ : ∃ g, g = w5.heap.size := ⟨_, rfl⟩
  have hk56 : Keeps [] w5 w6 := by rw [hw6]; exact (Keeps.refl _ _).alloc _
  have hbq : w6.heap[gq]? = some (.cells #[layFn g1 e1, syncFn b, layFn g2 e2, syncFn b] 101 (0, 0)) := by rw [hw6]; exact heap_new_at hgq
  have hk26 : Keeps [] w2 w6 := (HK3.out.trans (G := []) HK5.out (by simp)).trans (G := []) hk56 (by simp)
  have hn : gq ∉ F1 := HD2.out.notin (by rw [hgq]; exact Nat.le_trans HK3.out.size HK5.out.size)
  have CI := Lib.hid (inOrder_four (w := w6) hbq (HL1'.out.keeps hk56 (by simp) (by simp)) (HL2.out.keeps hk56 (by simp) (by simp)) HV.out.1 HV.out.2 (HD2.out.keeps hk26 (by simp)) HC1.out (by rw [HQ1.out]; simp) hn HN1.out HN2.out)
  have HK26 := Lib.hid hk26
  have SA6 := Lib.hid (SA.out.keeps (HK5.out.trans (G := []) hk56 (by simp)) (by simp))
  have SB6 := Lib.hid (SB.out.keeps (HK5.out.trans (G := []) hk56 (by simp)) (by simp))
  rw [← hw6, ← hgq]
  clear hw6 hgq hk56 hbq hk26 hn
  refine hK.out _ _ ?_ (fun hHeld => ?_)
  · exact ⟨SA6.out, SB6.out⟩
  clear hK K
  try simp only [Act.put, List.setIfInBounds_toArray, List.set_cons_zero, List.set_cons_succ, List.getElem_toArray, List.getElem_cons_zero, List.getElem_cons_succ]
  clear hHeld
  refine wpAnyH_ready (rs := [11]) (by kernel_rfl) (by simp) ?_
  refine AllReadyH.cons rfl (fun K hK => ?_) AllReadyH.nil
  go_simp
  refine CI.out.mono ?_
  rintro e w7 ⟨rfl, F7, hd7, hf7, hk7⟩
  have HR := Lib.hid (show DStep w b F E w7 by
    rw [HE.out]
    exact DStep.trans HF1.out HK1.out (DStep.trans (F1 := F1) (w1 := w6) (fun k hk => .inl hk) ((HK12.out.trans (G := []) HK26.out (by simp)).mono (by simp)) ⟨F7, hd7, hf7, hk7⟩))
  refine hK.out _ _ ?_ (fun hHeld => ?_)
  · exact ⟨SA6.out.keeps hk7 NA.out, SB6.out.keeps hk7 NB.out⟩
  clear hK K
  try simp only [Act.put, List.setIfInBounds_toArray, List.set_cons_zero, List.set_cons_succ, List.getElem_toArray, List.getElem_cons_zero, List.getElem_cons_succ]
  clear hd7 hf7 hk7
  refine' wpAnyH_take (i := 12) (v := _) rfl (by kernel_rfl) (by kernel_rfl) (by kernel_rfl) (fun _ _ _ h => h) (Or.inl ⟨by rfl, ?_⟩) (by assumption) ?_
  rotate_left 1
  · (intro w0 hSw; (try dsimp only at hSw); go_split_ands; go_simp; (try with_reducible rfl))
  try simp only [Act.put, List.setIfInBounds_toArray, List.set_cons_zero, List.set_cons_succ, List.getElem_toArray, List.getElem_cons_zero, List.getElem_cons_succ]
  refine wpAnyH_done (by kernel_rfl) ?_ _
  clear hHeld
  go_wp2_with fail
  go_ret
  exact ⟨rfl, HR.out⟩
end Go.Proofs.YtojlojdkhegbkaaDoor

/-
  Package file: Open, Super, Forget.
-/
namespace Go.Proofs.YtojlojdkhegbkaaDoor
set_option linter.unusedVariables false
set_option linter.unusedSimpArgs false
open Go.RowKit

theorem dClaim_step {w : World} {b : Nat} {d : D} {F : List Nat} (hI : DiskAt w b d F) :
    Calls Tryd.prog 61 #[.pointer (some ⟨b, 0, none⟩)] w fun e w' => e = .returned (.int .i64 (wrap64 (d.epoch + 1))) ∧ DiskAt w' b { d with epoch := wrap64 (d.epoch + 1) } F ∧ Keeps F w w' := by
  obtain ⟨bp, qv, bm, hI, rfl⟩ := hI
  obtain ⟨c0, c1, c2, c3, c4, c5, c6, c7, c8, c9⟩ := hI.cells
  refine (dClaim_any c9 (hI.free 9)).mono ?_
  rintro e w' ⟨rfl, rfl⟩
  exact ⟨rfl, ⟨bp, qv, bm, hI.setc { d with epoch := wrap64 (d.epoch + 1) } 9 _ rfl rfl hI.ok rfl, rfl⟩, (Keeps.refl _ _).setCell (.inl (by simp)) _⟩
/-- The disk behind Open. -/
def openD (d : D) : D := { d with reads := wrap64 (wrap64 (d.reads + 1) + 1), epoch := wrap64 (d.epoch + 1) }
set_option maxRecDepth 100000 in
set_option maxHeartbeats 1600000 in
theorem open_ok {w : World} {b : Nat} {d : D} {F : List Nat} {s : Sup} (hd : DiskAt w b d F) (hp : d.dead = false) (hch : chooseL (d.read 0) (d.read 1) = (0, s)) (hpg : s.pages = d.n) :
    Calls Tryd.prog 45 #[.pointer (some ⟨b, 0, none⟩)] w fun e w' => ∃ bf F', e = .returned (.tuple #[.pointer (some ⟨bf, 0, none⟩), .int .i64 0]) ∧ FileAt w' bf b ⟨s, s.mark, wrap64 (d.epoch + 1)⟩ ∧ DiskAt w' b (openD d) F' ∧ From w F F' ∧ Keeps F w w' ∧ w.heap.size ≤ bf ∧ bf ∉ F' := by
  obtain ⟨W, G, M, H, P⟩ := s
  dsimp only at hpg ⊢
  have CS := slots_any hd hp
  rw [hch] at CS
  obtain ⟨d1, hd1⟩ : ∃ d1 : D, d1 = { d with reads := wrap64 (wrap64 (d.reads + 1) + 1) } := ⟨_, rfl⟩
  obtain ⟨E, hE⟩ : ∃ x, x = wrap64 (d.epoch + 1) := ⟨_, rfl⟩
  have ho : openD d = { d1 with epoch := E } := by rw [hd1, hE]; rfl
  have he1 : wrap64 (d1.epoch + 1) = E := by rw [hd1, hE]
  have hn1 : (d1.n : Int) = P := by rw [hd1]; exact hpg.symm
  rw [← hd1] at CS
  rw [ho, ← hE]
  have CS' := Lib.hid CS
  have HE1 := Lib.hid he1
  have HN1 := Lib.hid hn1
  clear hd hp hch hpg CS hd1 hE ho he1 hn1
  go_enter Tryd.func45, Tryd.ntmps45
  go_wp2_with fail
  refine CS'.out.mono ?_
  rintro e w1 ⟨rfl, F1, hdd, hf1, hk1⟩
  obtain ⟨w2, hw2⟩ : ∃ w2, w2 = w1.alloc (.cells #[.int .i64 W, .int .i64 G, .int .i64 M, .int .i64 H, .int .i64 P] 47 (0, 0)) := ⟨_, rfl⟩
  obtain ⟨gs, hgs⟩ : ∃ g, g = w1.heap.size := ⟨_, rfl⟩
  have hst2 := run_storeAt_new (P := Tryd.prog) w1 47 #[.int .i64 0, .int .i64 0, .int .i64 0, .int .i64 0, .int .i64 0] #[.int .i64 W, .int .i64 G, .int .i64 M, .int .i64 H, .int .i64 P] (by rw [size_super]; rfl) rfl (all_oneCell_toArray (supC_one ⟨W, G, M, H, P⟩))
  have hk12 : Keeps [] w1 w2 := by rw [hw2]; exact (Keeps.refl _ _).alloc _
  have hs2 : SupAt w2 gs ⟨W, G, M, H, P⟩ := by rw [hw2]; exact heap_new_at hgs
  have hdd2 := hdd.keeps hk12 (by simp)
  have hk02 : Keeps F w w2 := hk1.trans (G := []) hk12 (by simp)
  obtain ⟨bp, d4, _, _, _⟩ := hdd2.dcells
  have CG : ∀ wx : World, wx.cell? ⟨b, 4, none⟩ = some (.slice (some ⟨bp, 0, none⟩) d1.n d1.n) → Calls Tryd.prog 42 #[.pointer (some ⟨b, 0, none⟩)] wx fun e w' => e = .returned (.int .i64 P) ∧ wx = w' := fun wx h => by
    have := dPages_any h
    rw [HN1.out] at this
    exact this
  have CG' := Lib.hid CG
  have HST2 := Lib.hid hst2
  have HW2 := Lib.hid hw2
  have HD2 := Lib.hid hdd2
  have HF1 := Lib.hid hf1
  have HK02 := Lib.hid hk02
  have HGS := Lib.hid hgs
  have HS2 := Lib.hid hs2
  have HD4 := Lib.hid d4
  have NS := Lib.hid (show gs ∉ F1 from hdd.notin (Nat.le_of_eq hgs.symm))
  have LE := Lib.hid (show w.heap.size ≤ w1.heap.size from hk1.size)
  clear hdd hf1 hk1 hw2 hgs hst2 hk12 hs2 hdd2 hk02 d4 CG CS'
  go_upto_region 4 with (first | (refine wl_store rfl 47 (.tmp 4) (.tmp 11) rfl ?_; refine ⟨_, HST2.out, ?_⟩; try simp only [Act.put, List.setIfInBounds_toArray, List.set_cons_zero, List.set_cons_succ, List.getElem_toArray, List.getElem_cons_zero, List.getElem_cons_succ]))
  rw [← HW2.out, ← HGS.out]
  go_upto_region 6 with fail
  have cs4 := HS2.out.cells.2.2.2.2
  refine wp_region_held_drew (S := (fun w' => w'.cell? ⟨gs, 4, none⟩ = some (.int .i64 P) ∧ w'.cell? ⟨b, 4, none⟩ = some (.slice (some ⟨bp, 0, none⟩) d1.n d1.n))) (by kernel_rfl) ?_ (fun hHeld => ?_)
  · exact ⟨cs4, HD4.out⟩
  refine' wpAnyH_take (i := 0) (v := _) rfl (by kernel_rfl) (by kernel_rfl) (by kernel_rfl) (fun _ _ _ h => h) (Or.inl ⟨by rfl, ?_⟩) (by assumption) ?_
  rotate_left 1
  · (intro w0 hSw; (try dsimp only at hSw); go_split_ands; go_simp; (try with_reducible rfl))
  try simp only [Act.put, List.setIfInBounds_toArray, List.set_cons_zero, List.set_cons_succ, List.getElem_toArray, List.getElem_cons_zero, List.getElem_cons_succ]
  refine' wpAnyH_take (i := 1) (v := _) rfl (by kernel_rfl) (by kernel_rfl) (by kernel_rfl) (fun _ _ _ h => h) (Or.inl ⟨by rfl, ?_⟩) (by assumption) ?_
  rotate_left 1
  · (intro w0 hSw; (try dsimp only at hSw); go_split_ands; go_simp; (try with_reducible rfl))
  try simp only [Act.put, List.setIfInBounds_toArray, List.set_cons_zero, List.set_cons_succ, List.getElem_toArray, List.getElem_cons_zero, List.getElem_cons_succ]
  refine' wpAnyH_take (i := 2) (v := _) rfl (by kernel_rfl) (by kernel_rfl) (by kernel_rfl) (fun _ _ _ h => h) (Or.inl ⟨by rfl, ?_⟩) (by assumption) ?_
  rotate_left 1
  · (intro w0 hSw; (try dsimp only at hSw); go_split_ands; go_simp; (try with_reducible rfl))
  try simp only [Act.put, List.setIfInBounds_toArray, List.set_cons_zero, List.set_cons_succ, List.getElem_toArray, List.getElem_cons_zero, List.getElem_cons_succ]
  refine hc_take (i := 3) (v := .int .i64 P) rfl (by kernel_rfl) (by kernel_rfl) (by kernel_rfl) (fun _ _ _ h => h) (yieldsC_call (by rfl) 42 _ _ rfl Tryd.f42 Tryd.func42 (by kernel_rfl) rfl #[.pointer (some ⟨b, 0, none⟩)] (by simp [Act.eval]) (fun w0 hS => CG'.out w0 hS.2)) (by assumption) ?_
  try simp only [Act.put, List.setIfInBounds_toArray, List.set_cons_zero, List.set_cons_succ, List.getElem_toArray, List.getElem_cons_zero, List.getElem_cons_succ]
  refine' wpAnyH_take (i := 4) (v := _) rfl (by kernel_rfl) (by kernel_rfl) (by kernel_rfl) (fun _ _ _ h => h) (Or.inl ⟨by rfl, ?_⟩) (by assumption) ?_
  rotate_left 1
  · (intro w0 hSw; (try dsimp only at hSw); go_split_ands; go_simp; (try with_reducible rfl))
  try simp only [Act.put, List.setIfInBounds_toArray, List.set_cons_zero, List.set_cons_succ, List.getElem_toArray, List.getElem_cons_zero, List.getElem_cons_succ]
  refine wpAnyH_done (by kernel_rfl) ?_ _
  clear hHeld cs4 CG'
  have CC := Lib.hid (dClaim_step (w := w2.drew.drew) (b := b) (d := d1) (F := F1) (HD2.out.keeps ((Keeps.refl [] _).drew.drew) (by simp)))
  rw [HE1.out] at CC
  go_upto_region 8 with fail
  refine wp_region_held_drew (S := (fun w' => SupAt w' gs ⟨W, G, M, H, P⟩ ∧ w'.cell? ⟨gs, 2, none⟩ = some (.int .i64 M))) (by kernel_rfl) ?_ (fun hHeld => ?_)
  · exact ⟨HS2.out, HS2.out.cells.2.2.1⟩
  refine' wpAnyH_take (i := 0) (v := _) rfl (by kernel_rfl) (by kernel_rfl) (by kernel_rfl) (fun _ _ _ h => h) (Or.inl ⟨by rfl, ?_⟩) (by assumption) ?_
  rotate_left 1
  · (intro w0 hSw; (try dsimp only at hSw); go_split_ands; go_simp; (try with_reducible rfl))
  try simp only [Act.put, List.setIfInBounds_toArray, List.set_cons_zero, List.set_cons_succ, List.getElem_toArray, List.getElem_cons_zero, List.getElem_cons_succ]
  refine' wpAnyH_take (i := 1) (v := _) rfl (by kernel_rfl) (by kernel_rfl) (by kernel_rfl) (fun _ _ _ h => h) (yieldsIf_load_mid (by rfl) 47 (.tmp 4) rfl gs 0 rfl [.int .i64 W, .int .i64 G, .int .i64 M, .int .i64 H, .int .i64 P] _ (fun _ h => rangeAt_all h.1) Tryd.underlying47 rfl (by rw [size_super]; rfl)) (by assumption) ?_
  try simp only [Act.put, List.setIfInBounds_toArray, List.set_cons_zero, List.set_cons_succ, List.getElem_toArray, List.getElem_cons_zero, List.getElem_cons_succ]
  refine' wpAnyH_take (i := 2) (v := _) rfl (by kernel_rfl) (by kernel_rfl) (by kernel_rfl) (fun _ _ _ h => h) (Or.inl ⟨by rfl, ?_⟩) (by assumption) ?_
  rotate_left 1
  · (intro w0 hSw; (try dsimp only at hSw); go_split_ands; go_simp; (try with_reducible rfl))
  try simp only [Act.put, List.setIfInBounds_toArray, List.set_cons_zero, List.set_cons_succ, List.getElem_toArray, List.getElem_cons_zero, List.getElem_cons_succ]
  refine' wpAnyH_take (i := 3) (v := _) rfl (by kernel_rfl) (by kernel_rfl) (by kernel_rfl) (fun _ _ _ h => h) (Or.inl ⟨by rfl, ?_⟩) (by assumption) ?_
  rotate_left 1
  · (intro w0 hSw; (try dsimp only at hSw); go_split_ands; go_simp; (try with_reducible rfl))
  try simp only [Act.put, List.setIfInBounds_toArray, List.set_cons_zero, List.set_cons_succ, List.getElem_toArray, List.getElem_cons_zero, List.getElem_cons_succ]
  refine' wpAnyH_take (i := 4) (v := _) rfl (by kernel_rfl) (by kernel_rfl) (by kernel_rfl) (fun _ _ _ h => h) (Or.inl ⟨by rfl, ?_⟩) (by assumption) ?_
  rotate_left 1
  · (intro w0 hSw; (try dsimp only at hSw); go_split_ands; go_simp; (try with_reducible rfl))
  try simp only [Act.put, List.setIfInBounds_toArray, List.set_cons_zero, List.set_cons_succ, List.getElem_toArray, List.getElem_cons_zero, List.getElem_cons_succ]
  clear hHeld
  refine wpAnyH_ready (rs := [5]) (by kernel_rfl) (by simp) ?_
  refine AllReadyH.cons rfl (fun K hK => ?_) AllReadyH.nil
  go_simp
  refine CC.out.mono ?_
  rintro e w3 ⟨rfl, hd3, hk3⟩
  have HD3 := Lib.hid hd3
  have HK3 := Lib.hid hk3
  clear hd3 hk3
  have hk3' : Keeps F1 w2 w3 := ((Keeps.refl F1 w2).drew.drew).trans (G := F1) HK3.out (fun k hk => .inl hk)
  have HK3' := Lib.hid hk3'
  clear hk3'
  refine hK.out _ _ ?_ (fun hHeld => ?_)
  · have := HS2.out.keeps HK3'.out NS.out
    exact ⟨this, this.cells.2.2.1⟩
  clear hK K
  try simp only [Act.put, List.setIfInBounds_toArray, List.set_cons_zero, List.set_cons_succ, List.getElem_toArray, List.getElem_cons_zero, List.getElem_cons_succ]
  refine' wpAnyH_take (i := 6) (v := _) rfl (by kernel_rfl) (by kernel_rfl) (by kernel_rfl) (fun _ _ _ h => h) (Or.inl ⟨by rfl, ?_⟩) (by assumption) ?_
  rotate_left 1
  · (intro w0 hSw; (try dsimp only at hSw); go_split_ands; go_simp; (try with_reducible rfl))
  try simp only [Act.put, List.setIfInBounds_toArray, List.set_cons_zero, List.set_cons_succ, List.getElem_toArray, List.getElem_cons_zero, List.getElem_cons_succ]
  refine wpAnyH_ready (rs := [7]) (by kernel_rfl) (by simp) ?_
  refine AllReadyH.cons rfl (fun K hK => ?_) AllReadyH.nil
  go_simp
  refine hK.out _ _ ?_ (fun hHeld => ?_)
  · have := (HS2.out.keeps HK3'.out NS.out).keeps ((Keeps.refl [] _).alloc (.cells #[.pointer (some ⟨b, 0, none⟩), .int .i64 W, .int .i64 G, .int .i64 M, .int .i64 H, .int .i64 P, .int .i64 M, .int .i64 E] 108 (0, 0))) (by simp)
    exact ⟨this, this.cells.2.2.1⟩
  clear hK K
  try simp only [Act.put, List.setIfInBounds_toArray, List.set_cons_zero, List.set_cons_succ, List.getElem_toArray, List.getElem_cons_zero, List.getElem_cons_succ]
  refine' wpAnyH_take (i := 8) (v := _) rfl (by kernel_rfl) (by kernel_rfl) (by kernel_rfl) (fun _ _ _ h => h) (Or.inl ⟨by rfl, ?_⟩) (by assumption) ?_
  rotate_left 1
  · (intro w0 hSw; (try dsimp only at hSw); go_split_ands; go_simp; (try with_reducible rfl))
  try simp only [Act.put, List.setIfInBounds_toArray, List.set_cons_zero, List.set_cons_succ, List.getElem_toArray, List.getElem_cons_zero, List.getElem_cons_succ]
  refine' wpAnyH_take (i := 9) (v := _) rfl (by kernel_rfl) (by kernel_rfl) (by kernel_rfl) (fun _ _ _ h => h) (Or.inl ⟨by rfl, ?_⟩) (by assumption) ?_
  rotate_left 1
  · (intro w0 hSw; (try dsimp only at hSw); go_split_ands; go_simp; (try with_reducible rfl))
  try simp only [Act.put, List.setIfInBounds_toArray, List.set_cons_zero, List.set_cons_succ, List.getElem_toArray, List.getElem_cons_zero, List.getElem_cons_succ]
  refine wpAnyH_done (by kernel_rfl) ?_ _
  go_wp2_with fail
  go_ret2
  have hk4 : Keeps [] w3 (w3.alloc (.cells #[.pointer (some ⟨b, 0, none⟩), .int .i64 W, .int .i64 G, .int .i64 M, .int .i64 H, .int .i64 P, .int .i64 M, .int .i64 E] 108 (0, 0))) := (Keeps.refl _ _).alloc _
  refine ⟨w3.heap.size, F1, rfl, heap_new_at rfl, HD3.out.keeps hk4 (by simp), HF1.out, (HK02.out.trans HK3'.out HF1.out).trans hk4 (by simp), Nat.le_trans HK02.out.size HK3'.out.size, HD3.out.notin (Nat.le_refl _)⟩
theorem fForget_any {w : World} {bf b : Nat} {f : Fi} (hf : FileAt w bf b f) :
    Calls Tryd.prog 62 #[.pointer (some ⟨bf, 0, none⟩)] w fun e w' => e = .returned (.tuple #[]) ∧ FileAt w' bf b ⟨f.sup, f.sup.mark, f.mine⟩ ∧ Keeps [bf] w w' := by
  obtain ⟨c0, c3, c6, c7⟩ := hf.cells
  have f6 := hf.free 6
  have HF := Lib.hid hf
  clear hf
  go_enter Tryd.func62, Tryd.ntmps62
  go_wp2_with fail
  refine Go.Great.bodyPost_end0 rfl rfl ⟨rfl, ?_, (Keeps.refl _ _).setCell (.inl (by simp)) _⟩
  have := heap_setCell_same w bf 6 _ _ (.int .i64 f.sup.mark) HF.out
  exact this
theorem fSuper_any {w : World} {bf b : Nat} {f : Fi} (hf : FileAt w bf b f) :
    Calls Tryd.prog 32 #[.pointer (some ⟨bf, 0, none⟩)] w fun e w' => e = .returned (supV f.sup) ∧ Keeps [] w w' := by
  have HR := Lib.hid hf.range
  obtain ⟨w0, hw0⟩ : ∃ w0, w0 = w.alloc (.cells #[.int .i64 0, .int .i64 0, .int .i64 0, .int .i64 0, .int .i64 0] 47 (0, 0)) := ⟨_, rfl⟩
  obtain ⟨g0, hg0⟩ : ∃ g, g = w.heap.size := ⟨_, rfl⟩
  have hz0 : SupAt w0 g0 zSup := by rw [hw0]; exact heap_new_at hg0
  have hk0 : Keeps [] w w0 := by rw [hw0]; exact (Keeps.refl _ _).alloc _
  have hf0 := hf.keeps hk0 (by simp)
  have HR0 := Lib.hid hf0.range
  obtain ⟨st, ss⟩ := hz0.store f.sup
  have ST := Lib.hid st
  have SS := Lib.hid ss
  have HK := Lib.hid (show Keeps [] w (w0.setCells g0 0 (supC f.sup)) from hk0.setCells (.inr (by omega)) _ _)
  have HW := Lib.hid hw0
  have HG := Lib.hid hg0
  have HSZ := Lib.hid (show (Tryd.prog.info? 47).map (·.size) = some (supC f.sup).length by rw [size_super]; rfl)
  clear hf hw0 hg0 hz0 hk0 hf0 st ss
  go_enter Tryd.func32, Tryd.ntmps32
  go_upto_region 1 with fail
  rw [← HW.out, ← HG.out]
  go_wp2_with (first | (refine wpList_load_mid rfl 47 (.tmp 5) rfl bf 1 (by rfl) (supC f.sup) _ HR0.out Tryd.underlying47 rfl HSZ.out ?_) | (refine wl_store rfl 47 (.tmp 2) (.tmp 6) rfl ?_; refine ⟨_, ST.out, ?_⟩; try simp only [Act.put, List.setIfInBounds_toArray, List.set_cons_zero, List.set_cons_succ, List.getElem_toArray, List.getElem_cons_zero, List.getElem_cons_succ]))
  exact bodyPost_ret (results_sup rfl rfl SS.out) rfl ⟨rfl, HK.out⟩
end Go.Proofs.YtojlojdkhegbkaaDoor

/-
  Package store: a store in memory; Live, Super, Next, Pages, copied.
-/
namespace Go.Proofs.YtojlojdkhegbkaaDoor
set_option linter.unusedVariables false
set_option linter.unusedSimpArgs false
open Go.RowKit

/-- A store over its file: the file's word, its cache (what is staged is what the cache keeps). -/
structure St where
  f : Fi
  C : Ca
def stagedC (l : List Ent) : List Value := l.flatMap fun e => [.int .i64 e.kind, e.lv]
def fetchFn (bf : Nat) : Value := .func (.func 63) #[.pointer (some ⟨bf, 0, none⟩)] #[]
def stC (bf c : Nat) (sv : Value) : Array Value := #[.pointer (some ⟨bf, 0, none⟩), fetchFn bf, .pointer (some ⟨c, 0, none⟩), sv]
structure StoreIn (w : World) (s b : Nat) (S : St) (bf c bm : Nat) (sv : Value) : Prop where
  root : w.heap[s]? = some (.cells (stC bf c sv) 75 (0, 0))
  file : FileAt w bf b S.f
  cache : CacheIn w c bm S.C
  staged : w.ownsRow 0 69 2 sv S.C.kept.length (stagedC S.C.kept)
  keys : ∀ (i : Nat) (e : Ent), S.C.kept[i]? = some e → e.key = S.f.sup.mark + i
  old : ∀ e ∈ S.C.clean, e.key < S.f.sup.mark
  mark : 2 ≤ S.f.sup.mark
  room : S.f.sup.mark + S.C.kept.length ≤ 4096
  few : S.C.clean.length ≤ 4096
  n1 : s ≠ bf ∧ s ∉ caF c bm S.C ∧ bf ∉ caF c bm S.C ∧ sv.ownBlock ≠ some s ∧ sv.ownBlock ≠ some bf
  n2 : ∀ k ∈ caF c bm S.C, sv.ownBlock ≠ some k
def stF (s bf c bm : Nat) (sv : Value) (S : St) : List Nat := s :: bf :: (caF c bm S.C ++ sv.ownBlock.toList)
theorem mem_stF {s bf c bm : Nat} {sv : Value} {S : St} {k : Nat} : k ∈ stF s bf c bm sv S ↔ k = s ∨ k = bf ∨ k ∈ caF c bm S.C ∨ sv.ownBlock = some k := by simp [stF]
theorem StoreIn.keep {w w' : World} {s b bf c bm : Nat} {S : St} {sv : Value} (h : StoreIn w s b S bf c bm sv) (hb : ∀ k ∈ stF s bf c bm sv S, w'.heap[k]? = w.heap[k]?) : StoreIn w' s b S bf c bm sv :=
  ⟨(hb s (mem_stF.2 (.inl rfl))).trans h.root, (hb bf (mem_stF.2 (.inr (.inl rfl)))).trans h.file, h.cache.keep (fun k hk => hb k (mem_stF.2 (.inr (.inr (.inl hk))))), ownsRow_keep h.staged (fun k hk => hb k (mem_stF.2 (.inr (.inr (.inr hk))))), h.keys, h.old, h.mark, h.room, h.few, h.n1, h.n2⟩
theorem StoreIn.lt {w : World} {s b bf c bm : Nat} {S : St} {sv : Value} (h : StoreIn w s b S bf c bm sv) : ∀ k ∈ stF s bf c bm sv S, k < w.heap.size := by
  intro k hk
  rcases mem_stF.1 hk with rfl | rfl | hk | hk
  · exact lt_of_heap h.root
  · exact lt_of_heap h.file
  · exact h.cache.lt k hk
  · exact (h.staged.lt k hk).2
theorem StoreIn.keeps {w w' : World} {s b bf c bm : Nat} {S : St} {sv : Value} {F : List Nat} (h : StoreIn w s b S bf c bm sv) (hk : Keeps F w w') (hd : ∀ k ∈ stF s bf c bm sv S, k ∉ F) : StoreIn w' s b S bf c bm sv :=
  h.keep (fun k hk' => hk.block k (h.lt k hk') (hd k hk'))
theorem StoreIn.cells {w : World} {s b bf c bm : Nat} {S : St} {sv : Value} (h : StoreIn w s b S bf c bm sv) : w.cell? ⟨s, 0, none⟩ = some (.pointer (some ⟨bf, 0, none⟩)) ∧ w.cell? ⟨s, 2, none⟩ = some (.pointer (some ⟨c, 0, none⟩)) ∧ w.cell? ⟨s, 3, none⟩ = some sv :=
  ⟨cell_sets_of h.root rfl, cell_sets_of h.root rfl, cell_sets_of h.root rfl⟩
theorem StoreIn.form {w : World} {s b bf c bm : Nat} {S : St} {sv : Value} (h : StoreIn w s b S bf c bm sv) : ∃ a cp, sv = .slice a S.C.kept.length cp := owns_slice h.staged

theorem sLive_any {w : World} {s b bf c bm : Nat} {S : St} {sv : Value} {d : D} {F : List Nat} (h : StoreIn w s b S bf c bm sv) (hd : DiskAt w b d F) :
    Calls Tryd.prog 12 #[.pointer (some ⟨s, 0, none⟩)] w fun e w' => e = .returned (.int .i64 (liveE d S.f)) ∧ Keeps [] w w' := by
  have c0 := h.cells.1
  have CL := Lib.hid (fLive_any h.file hd)
  clear h hd
  go_enter Tryd.func12, Tryd.ntmps12
  go_wp2_with fail
  refine CL.out.mono ?_
  rintro e w1 ⟨rfl, hk⟩
  have HK := Lib.hid hk
  clear hk CL
  go_wp2_with fail
  go_ret
  exact ⟨rfl, HK.out⟩
theorem sSuper_any {w : World} {s b bf c bm : Nat} {S : St} {sv : Value} (h : StoreIn w s b S bf c bm sv) :
    Calls Tryd.prog 15 #[.pointer (some ⟨s, 0, none⟩)] w fun e w' => e = .returned (supV S.f.sup) ∧ Keeps [] w w' := by
  obtain ⟨w0, hw0⟩ : ∃ w0, w0 = w.alloc (.cells #[.int .i64 0, .int .i64 0, .int .i64 0, .int .i64 0, .int .i64 0] 47 (0, 0)) := ⟨_, rfl⟩
  obtain ⟨g0, hg0⟩ : ∃ g, g = w.heap.size := ⟨_, rfl⟩
  have hz0 : SupAt w0 g0 zSup := by rw [hw0]; exact heap_new_at hg0
  have hk0 : Keeps [] w w0 := by rw [hw0]; exact (Keeps.refl _ _).alloc _
  have h0 := h.keeps hk0 (by simp)
  have c0 := h0.cells.1
  have CS := Lib.hid (fSuper_any h0.file)
  have HZ := Lib.hid hz0
  have HK := Lib.hid hk0
  have HW := Lib.hid hw0
  have HG := Lib.hid hg0
  clear h hw0 hg0 hz0 hk0 h0
  go_enter Tryd.func15, Tryd.ntmps15
  go_upto_region 1 with fail
  rw [← HW.out, ← HG.out]
  go_wp2_with fail
  refine CS.out.mono ?_
  rintro e w1 ⟨rfl, hk1⟩
  obtain ⟨st, ss⟩ := (HZ.out.keeps hk1 (by simp)).store S.f.sup
  have ST := Lib.hid st
  have SS := Lib.hid ss
  have HK1 := Lib.hid (show Keeps [] w (w1.setCells g0 0 (supC S.f.sup)) from (HK.out.trans (G := []) hk1 (by simp)).setCells (.inr (Nat.le_of_eq HG.out.symm)) _ _)
  clear st ss hk1 CS
  go_wp2_with (first | (refine wl_store rfl 47 (.tmp 2) (.tmp 7) rfl ?_; refine ⟨_, ST.out, ?_⟩; try simp only [Act.put, List.setIfInBounds_toArray, List.set_cons_zero, List.set_cons_succ, List.getElem_toArray, List.getElem_cons_zero, List.getElem_cons_succ]))
  exact bodyPost_ret (results_sup rfl rfl SS.out) rfl ⟨rfl, HK1.out⟩
theorem field_mark (w : World) (s : Sup) : (Instr.field 47 (supV s) 2).run Tryd.prog w = .ok (.int .i64 s.mark) w := by kernel_rfl
theorem sNext_any {w : World} {s b bf c bm : Nat} {S : St} {sv : Value} (h : StoreIn w s b S bf c bm sv) :
    Calls Tryd.prog 13 #[.pointer (some ⟨s, 0, none⟩)] w fun e w' => e = .returned (.int .i64 (S.f.sup.mark + S.C.kept.length)) ∧ Keeps [] w w' := by
  obtain ⟨a, cp, rfl⟩ := h.form
  obtain ⟨n, hn⟩ : ∃ n, n = S.C.kept.length := ⟨_, rfl⟩
  have hm := h.mark
  have hr := h.room
  have h3 := h.cells.2.2
  rw [← hn] at hr h3 ⊢
  have e1 : IntKind.i64.wrap (S.f.sup.mark + (n : Int)) = S.f.sup.mark + (n : Int) := IntWalk.i64_in _ (by omega)
  have CS := Lib.hid (sSuper_any (w := w.drew) (h.keeps ((Keeps.refl [] w).drew) (by simp)))
  have H3 := Lib.hid (fun (wx : World) (hk : Keeps [] w wx) => (h.keeps hk (by simp)).cells.2.2)
  have HF := field_mark
  rw [← hn] at H3
  clear h hn hr hm
  go_enter Tryd.func13, Tryd.ntmps13
  go_upto_region 1 with fail
  refine wp_region_held_drew (S := (fun w' => w'.cell? ⟨s, 3, none⟩ = some (.slice a n cp))) (by kernel_rfl) ?_ (fun hHeld => ?_)
  · exact h3
  refine' wpAnyH_take (i := 0) (v := _) rfl (by kernel_rfl) (by kernel_rfl) (by kernel_rfl) (fun _ _ _ h => h) (Or.inl ⟨by rfl, ?_⟩) (by assumption) ?_
  rotate_left 1
  · (intro w0 hSw; (try dsimp only at hSw); go_split_ands; go_simp; (try with_reducible rfl))
  try simp only [Act.put, List.setIfInBounds_toArray, List.set_cons_zero, List.set_cons_succ, List.getElem_toArray, List.getElem_cons_zero, List.getElem_cons_succ]
  refine' wpAnyH_take (i := 3) (v := _) rfl (by kernel_rfl) (by kernel_rfl) (by kernel_rfl) (fun _ _ _ h => h) (Or.inl ⟨by rfl, ?_⟩) (by assumption) ?_
  rotate_left 1
  · (intro w0 hSw; (try dsimp only at hSw); go_split_ands; go_simp; (try with_reducible rfl))
  try simp only [Act.put, List.setIfInBounds_toArray, List.set_cons_zero, List.set_cons_succ, List.getElem_toArray, List.getElem_cons_zero, List.getElem_cons_succ]
  refine' wpAnyH_take (i := 4) (v := _) rfl (by kernel_rfl) (by kernel_rfl) (by kernel_rfl) (fun _ _ _ h => h) (Or.inl ⟨by rfl, ?_⟩) (by assumption) ?_
  rotate_left 1
  · (intro w0 hSw; (try dsimp only at hSw); go_split_ands; go_simp; (try with_reducible rfl))
  try simp only [Act.put, List.setIfInBounds_toArray, List.set_cons_zero, List.set_cons_succ, List.getElem_toArray, List.getElem_cons_zero, List.getElem_cons_succ]
  refine' wpAnyH_take (i := 5) (v := _) rfl (by kernel_rfl) (by kernel_rfl) (by kernel_rfl) (fun _ _ _ h => h) (Or.inl ⟨by rfl, ?_⟩) (by assumption) ?_
  rotate_left 1
  · (intro w0 hSw; (try dsimp only at hSw); go_split_ands; go_simp; (try with_reducible rfl))
  try simp only [Act.put, List.setIfInBounds_toArray, List.set_cons_zero, List.set_cons_succ, List.getElem_toArray, List.getElem_cons_zero, List.getElem_cons_succ]
  refine' wpAnyH_take (i := 6) (v := _) rfl (by kernel_rfl) (by kernel_rfl) (by kernel_rfl) (fun _ _ _ h => h) (Or.inl ⟨by rfl, ?_⟩) (by assumption) ?_
  rotate_left 1
  · (intro w0 hSw; (try dsimp only at hSw); go_split_ands; go_simp; (try with_reducible rfl))
  try simp only [Act.put, List.setIfInBounds_toArray, List.set_cons_zero, List.set_cons_succ, List.getElem_toArray, List.getElem_cons_zero, List.getElem_cons_succ]
  refine' wpAnyH_take (i := 7) (v := _) rfl (by kernel_rfl) (by kernel_rfl) (by kernel_rfl) (fun _ _ _ h => h) (Or.inl ⟨by rfl, ?_⟩) (by assumption) ?_
  rotate_left 1
  · (intro w0 hSw; (try dsimp only at hSw); go_split_ands; go_simp; (try with_reducible rfl))
  try simp only [Act.put, List.setIfInBounds_toArray, List.set_cons_zero, List.set_cons_succ, List.getElem_toArray, List.getElem_cons_zero, List.getElem_cons_succ]
  clear hHeld
  refine wpAnyH_ready (rs := [1]) (by kernel_rfl) (by simp) ?_
  refine AllReadyH.cons rfl (fun K hK => ?_) AllReadyH.nil
  go_simp
  refine CS.out.mono ?_
  rintro e w1 ⟨rfl, hk⟩
  have HK := Lib.hid (((Keeps.refl [] w).drew).trans (G := []) hk (by simp))
  clear hk
  refine hK.out _ _ ?_ (fun hHeld => ?_)
  · exact H3.out w1 HK.out
  clear hK K
  try simp only [Act.put, List.setIfInBounds_toArray, List.set_cons_zero, List.set_cons_succ, List.getElem_toArray, List.getElem_cons_zero, List.getElem_cons_succ]
  refine' wpAnyH_take (i := 2) (v := _) rfl (by kernel_rfl) (by kernel_rfl) (by kernel_rfl) (fun _ _ _ h => h) (Or.inl ⟨by rfl, ?_⟩) (by assumption) ?_
  rotate_left 1
  · (intro w0 hSw; (try dsimp only at hSw); go_split_ands; go_simp; (try with_reducible rfl))
  try simp only [Act.put, List.setIfInBounds_toArray, List.set_cons_zero, List.set_cons_succ, List.getElem_toArray, List.getElem_cons_zero, List.getElem_cons_succ]
  refine' wpAnyH_take (i := 8) (v := _) rfl (by kernel_rfl) (by kernel_rfl) (by kernel_rfl) (fun _ _ _ h => h) (Or.inl ⟨by rfl, ?_⟩) (by assumption) ?_
  rotate_left 1
  · (intro w0 hSw; (try dsimp only at hSw); go_split_ands; go_simp; (try with_reducible rfl))
  try simp only [Act.put, List.setIfInBounds_toArray, List.set_cons_zero, List.set_cons_succ, List.getElem_toArray, List.getElem_cons_zero, List.getElem_cons_succ]
  refine' wpAnyH_take (i := 9) (v := _) rfl (by kernel_rfl) (by kernel_rfl) (by kernel_rfl) (fun _ _ _ h => h) (Or.inl ⟨by rfl, ?_⟩) (by assumption) ?_
  rotate_left 1
  · (intro w0 hSw; (try dsimp only at hSw); go_split_ands; go_simp; (try with_reducible rfl))
  try simp only [Act.put, List.setIfInBounds_toArray, List.set_cons_zero, List.set_cons_succ, List.getElem_toArray, List.getElem_cons_zero, List.getElem_cons_succ]
  refine wpAnyH_done (by kernel_rfl) ?_ _
  go_wp2_with fail
  go_ret
  exact ⟨rfl, HK.out⟩
theorem sPages_any {w : World} {s b bf c bm : Nat} {S : St} {sv : Value} {d : D} {F : List Nat} (h : StoreIn w s b S bf c bm sv) (hd : DiskAt w b d F) :
    Calls Tryd.prog 24 #[.pointer (some ⟨s, 0, none⟩)] w fun e w' => e = .returned (.int .i64 d.n) ∧ w = w' := by
  have c0 := h.cells.1
  have f0 := h.file.cells.1
  obtain ⟨bp, d4, _⟩ := hd.dcells
  have CG := Lib.hid (dPages_any d4)
  clear h hd
  go_enter Tryd.func24, Tryd.ntmps24
  go_wp2_with (go_at_call 42; refine CG.out.mono ?_; rintro e w' ⟨rfl, rfl⟩)
  go_ret
  exact ⟨rfl, rfl⟩
theorem sCopied_any {w : World} {v : Value} {l : List UInt8} (hv : BytesAt w v l) (hl : l.length ≤ 1048576) :
    Calls Tryd.prog 25 #[v] w fun e w' => ∃ a cp, e = .returned (.slice a l.length cp) ∧ OwnB w' (.slice a l.length cp) l ∧ (∀ k, (Value.slice a l.length cp).ownBlock = some k → w.heap.size ≤ k) ∧ Keeps [] w w' := by
  obtain ⟨a0, c0, rfl, hc, hm⟩ := hv.form
  obtain ⟨v', w', hr, ho, hg⟩ := run_append_bytes (World.ownsRow_nil w w.heap.size 5 1) hv (by omega) (Nat.le_refl _) 25
  rw [Nat.zero_add, List.nil_append] at ho
  obtain ⟨a, cp, rfl⟩ := owns_slice ho
  have HR := Lib.hid (run_builtin_append hr)
  have HO := Lib.hid ho
  have HG := Lib.hid hg
  clear hv hc hm hl hr ho hg
  go_enter Tryd.func25, Tryd.ntmps25
  go_wp2_with (first | (refine wl_builtin rfl .append #[.const (.slice none 0 0), .tmp 3] #[25, 25] rfl ?_; simp only [List.map_toArray, List.map_cons, List.map_nil]; refine ⟨_, _, HR.out, ?_⟩; try simp only [Act.put, List.setIfInBounds_toArray, List.set_cons_zero, List.set_cons_succ, List.getElem_toArray, List.getElem_cons_zero, List.getElem_cons_succ]))
  go_ret
  exact ⟨a, cp, rfl, ownsRow_base HO.out, fun k hk => (World.ownsRow.lt HO.out k hk).1, (Keeps.refl [] w).grown HG.out (by simp [Value.ownBlock])⟩
end Go.Proofs.YtojlojdkhegbkaaDoor

/-
  Package store: New, Stage.
-/
namespace Go.Proofs.YtojlojdkhegbkaaDoor
set_option linter.unusedVariables false
set_option linter.unusedSimpArgs false
open Go.RowKit

set_option maxRecDepth 100000 in
set_option maxHeartbeats 800000 in
theorem sNew_ok {w : World} {bf b : Nat} {f : Fi} {d : D} {F : List Nat} (room : Nat) (hf : FileAt w bf b f) (hd : DiskAt w b d F) (hl : liveE d f = 0) (hr : room ≤ 4096) (hm : 2 ≤ f.sup.mark) (hm2 : f.sup.mark ≤ 4096) :
    Calls Tryd.prog 46 #[.pointer (some ⟨bf, 0, none⟩), .int .i64 room] w fun e w' => ∃ s c bm, e = .returned (.tuple #[.pointer (some ⟨s, 0, none⟩), .int .i64 0]) ∧ StoreIn w' s b ⟨⟨f.sup, f.sup.mark, f.mine⟩, ⟨room, [], [], 0, 0, 0⟩⟩ bf c bm (.slice none 0 0) ∧ Keeps [bf] w w' ∧ w.heap.size ≤ s ∧ w.heap.size ≤ c ∧ w.heap.size ≤ bm := by
  have hmf : ∀ (fn : Fn) (first cap : Array Value) (w : World), (Instr.makeFunc fn first cap).run Tryd.prog w = .ok (.func fn first cap) w := fun _ _ _ _ => rfl
  have CL := fLive_any hf hd
  rw [hl] at CL
  have CL' := Lib.hid CL
  have HF := Lib.hid hf
  have HM := Lib.hid (And.intro hm hm2)
  have HR := Lib.hid hr
  have r0 : (0 : Int) ≤ (room : Int) := by omega
  have r1 : (room : Int) ≤ 4096 := by omega
  clear hf hd hl hr hm hm2 CL
  go_enter Tryd.func46, Tryd.ntmps46
  go_wp2_with fail
  refine CL'.out.mono ?_
  rintro e w1 ⟨rfl, hk1⟩
  have CF := Lib.hid (fForget_any (HF.out.keeps hk1 (by simp)))
  have HK1 := Lib.hid hk1
  clear hk1 CL'
  go_wp2_with fail
  refine CF.out.mono ?_
  rintro e w2 ⟨rfl, hf2, hk2⟩
  have HF2 := Lib.hid hf2
  have HK2 := Lib.hid ((HK1.out.mono (G := [bf]) (by simp)).trans (G := [bf]) hk2 (fun _ h => .inl h))
  have CN := Lib.hid (caNew_any (w := w2) room HR.out)
  clear hf2 hk2 CF HK1
  go_wp2_with fail
  refine CN.out.mono ?_
  rintro e w3 ⟨c, bm, rfl, hc3, hc, hbm, hk3⟩
  have HC3 := Lib.hid hc3
  have HF3 := Lib.hid (HF2.out.keeps hk3 (by simp))
  have HK3 := Lib.hid (HK2.out.trans (G := []) hk3 (by simp))
  have HC := Lib.hid (And.intro hc hbm)
  have HBF := Lib.hid (lt_of_heap HF2.out)
  clear hc3 hk3 hc hbm CN
  go_wp2_with fail
  go_ret2
  have hk4 : Keeps [] w3 (w3.alloc (.cells (stC bf c (.slice none 0 0)) 75 (0, 0))) := (Keeps.refl _ _).alloc _
  have hcl := HC3.out.lt c (by simp [caF])
  have hbl := HC3.out.lt bm (by simp [caF])
  have hsz := HK2.out.size
  refine ⟨w3.heap.size, c, bm, rfl, ⟨heap_new_at rfl, HF3.out.keeps hk4 (by simp), HC3.out.keep (fun j hj => hk4.block j (HC3.out.lt j hj) (by simp)), World.ownsRow_nil _ _ _ _, by simp, by simp, HM.out.1, by simpa using HM.out.2, by simp, ?_, by simp [Value.ownBlock]⟩, HK3.out.trans hk4 (by simp), HK3.out.size, by have := HC.out.1; omega, by have := HC.out.2; omega⟩
  have h1 := HC.out
  have h2 := HBF.out
  have h3 := lt_of_heap HF3.out
  refine ⟨by omega, ?_, ?_, by simp [Value.ownBlock], by simp [Value.ownBlock]⟩
  · simp [caF, Ca.all]; omega
  · simp [caF, Ca.all]; omega
theorem info_content : (Tryd.prog.info? 69).map (fun i => (i.zero, i.size, i.bytes)) = some (some (.agg #[.int .i64 0, .slice none 0 0]), 2, 32) := by kernel_rfl
theorem stagedC_snoc (l : List Ent) (e : Ent) : stagedC (l ++ [e]) = stagedC l ++ [.int .i64 e.kind, e.lv] := by simp [stagedC]
end Go.Proofs.YtojlojdkhegbkaaDoor

/-
  Package store: Stage of what may be staged.
-/
namespace Go.Proofs.YtojlojdkhegbkaaDoor
set_option linter.unusedVariables false
set_option linter.unusedSimpArgs false
open Go.RowKit

theorem content_ones (k : Int) (a : Option Addr) (n c : Nat) : ∀ v ∈ [Value.int .i64 k, .slice a n c], v.oneCell' = true := by
  intro v hv
  simp only [List.mem_cons, List.not_mem_nil, or_false] at hv
  rcases hv with rfl | rfl <;> rfl
def St.stage (S : St) (e : Ent) : St := { S with C := { S.C with kept := S.C.kept ++ [e] } }
set_option maxRecDepth 100000 in
set_option maxHeartbeats 3200000 in
theorem sStage_3 {w : World} {s b bf c bm : Nat} {S : St} {sv v : Value} {d : D} {F : List Nat} {load : List UInt8} (h : StoreIn w s b S bf c bm sv) (hd : DiskAt w b d F) (hl : liveE d S.f = 0) (hv : BytesAt w v load)
    (hll : load.length ≤ 246) (hroom : S.f.sup.mark + S.C.kept.length < d.n) :
    Calls Tryd.prog 8 #[.pointer (some ⟨s, 0, none⟩), .int .i64 3, v] w fun e w' => e = .returned (.tuple #[.int .i64 (S.f.sup.mark + S.C.kept.length), .int .i64 0]) ∧
      ∃ eb lv sv', StoreIn w' s b (S.stage ⟨eb, S.f.sup.mark + S.C.kept.length, 3, lv, load⟩) bf c bm sv' ∧ Keeps (stF s bf c bm sv S) w w' ∧ From w (stF s bf c bm sv S) (stF s bf c bm sv' (S.stage ⟨eb, S.f.sup.mark + S.C.kept.length, 3, lv, load⟩)) := by
  obtain ⟨va, vc, rfl, hvc, hvm⟩ := hv.form
  obtain ⟨hn3, hn4, _⟩ := hd.ok
  obtain ⟨sa, scp, rfl⟩ := h.form
  obtain ⟨m, hm⟩ : ∃ m, m = S.C.kept.length := ⟨_, rfl⟩
  obtain ⟨N, hN⟩ : ∃ N : Int, N = S.f.sup.mark + S.C.kept.length := ⟨_, rfl⟩
  have CL := sLive_any h hd
  rw [hl] at CL
  have CL' := Lib.hid CL
  have HH := Lib.hid h
  have HD := Lib.hid hd
  have HV := Lib.hid hv
  have HN := Lib.hid hN
  have HM := Lib.hid hm
  have HLL := Lib.hid hll
  rw [← hN] at hroom ⊢
  rw [← hm] at HH ⊢
  have ln : (load.length : Int) ≤ 246 := by omega
  have q1 : N < (d.n : Int) := hroom
  have HQ1 := Lib.hid q1
  have HN4 := Lib.hid hn4
  have hmark := h.mark
  have N0 := Lib.hid (show 2 ≤ N by omega)
  clear h hd hl hv hll hroom hN hm hn3 hn4 CL hmark hvm
  go_enter Tryd.func8, Tryd.ntmps8
  go_wp2_with fail
  refine CL'.out.mono ?_
  rintro e w1 ⟨rfl, hk1⟩
  have HH1 := Lib.hid (HH.out.keeps hk1 (by simp))
  have HK1 := Lib.hid hk1
  have CN := sNext_any HH1.out
  rw [← HN.out] at CN
  have CN' := Lib.hid CN
  clear hk1 CL' CN
  go_upto_region 8 with fail
  clear ln
  go_wp2_with fail
  refine CN'.out.mono ?_
  rintro e w2 ⟨rfl, hk2⟩
  have HH2 := Lib.hid (HH1.out.keeps hk2 (by simp))
  have HD2 := Lib.hid ((HD.out.keeps HK1.out (by simp)).keeps hk2 (by simp))
  have HK2 := Lib.hid (HK1.out.trans (G := []) hk2 (by simp))
  have CP := Lib.hid (sPages_any HH2.out HD2.out)
  have CC := Lib.hid (sCopied_any (HV.out.keeps HK2.out (by simp)) (by have := HLL.out; omega))
  clear hk2 CN' HH1 HK1
  go_upto_region 11 with (go_at_call 24; refine CP.out.mono ?_; rintro e w' ⟨rfl, rfl⟩)
  clear q1 CP
  go_wp2_with fail
  refine CC.out.mono ?_
  rintro e w3 ⟨la, lc, rfl, hlv, hln, hk3⟩
  obtain ⟨w4, hw4⟩ : ∃ x, x = w3.alloc (.cells #[.int .i64 3, .slice la load.length lc] 69 (0, 0)) := ⟨_, rfl⟩
  obtain ⟨gc, hgc⟩ : ∃ x, x = w3.heap.size := ⟨_, rfl⟩
  have hk34 : Keeps [] w3 w4 := by rw [hw4]; exact (Keeps.refl _ _).alloc _
  have hc4 : w4.heap[gc]? = some (.cells #[.int .i64 3, .slice la load.length lc] 69 (0, 0)) := by rw [hw4]; exact heap_new_at hgc
  have HW4 := Lib.hid hw4
  have HGC := Lib.hid hgc
  have HK4 := Lib.hid (HK2.out.trans (G := []) (hk3.trans (G := []) hk34 (by simp)) (by simp))
  have HH4 := Lib.hid ((HH2.out.keeps hk3 (by simp)).keeps hk34 (by simp))
  have HLV := Lib.hid (show OwnB w4 (.slice la load.length lc) load from ownsRow_keep hlv (fun k hk => hk34.block k (World.ownsRow.lt hlv k hk).2 (by simp)))
  have HLN := Lib.hid (show ∀ k, (Value.slice la load.length lc).ownBlock = some k → w.heap.size ≤ k ∧ k < w4.heap.size from fun k hk => ⟨Nat.le_trans HK2.out.size (hln k hk), by have := (World.ownsRow.lt hlv k hk).2; have := hk34.size; omega⟩)
  have HC4 := Lib.hid hc4
  have HGW := Lib.hid (show w.heap.size ≤ gc by rw [hgc]; exact Nat.le_trans HK2.out.size hk3.size)
  clear hlv hln hk3 hw4 hgc hk34 hc4 CC
  go_upto_region 12 with fail
  rw [← HW4.out, ← HGC.out]
  have S3 := Lib.hid (fun (wx : World) (hk : Keeps [] w4 wx) => (HH4.out.keeps hk (by simp)).cells.2.2)
  have c3 := HH4.out.cells.2.2
  have sz2 : (Tryd.prog.info? 69).map (·.size) = some 2 := size_content
  have hst := HH4.out.staged
  rw [← HM.out] at hst
  have HST := Lib.hid hst
  have f3 := frozen_of_row w4 s 3 _ _ HH4.out.root
  clear hst
  refine rl_start (fun w' => w'.cell? ⟨s, 3, none⟩ = some (.slice sa m scp) ∧ w'.rangeAt gc 0 [.int .i64 3, .slice la load.length lc]) 10 (by kernel_rfl) ?_ (fun hHeld => ?_)
  · exact ⟨c3, rangeAt_all HC4.out⟩
  refine' rl_take (i := 0) (v := _) rfl (by kernel_rfl) (by kernel_rfl) (by kernel_rfl) (by kernel_rfl) (fun _ _ _ h => h) (Or.inl ⟨by rfl, ?_⟩) (by assumption) ?_
  rotate_left 1
  · (intro w0 hSw; (try dsimp only at hSw); go_split_ands; go_simp; (try with_reducible rfl))
  try simp only [Act.put, List.setIfInBounds_toArray, List.set_cons_zero, List.set_cons_succ, List.getElem_toArray, List.getElem_cons_zero, List.getElem_cons_succ]
  refine' rl_take (i := 1) (v := _) rfl (by kernel_rfl) (by kernel_rfl) (by kernel_rfl) (by kernel_rfl) (fun _ _ _ h => h) (Or.inl ⟨by rfl, ?_⟩) (by assumption) ?_
  rotate_left 1
  · (intro w0 hSw; (try dsimp only at hSw); go_split_ands; go_simp; (try with_reducible rfl))
  try simp only [Act.put, List.setIfInBounds_toArray, List.set_cons_zero, List.set_cons_succ, List.getElem_toArray, List.getElem_cons_zero, List.getElem_cons_succ]
  refine' rl_take (i := 2) (v := _) rfl (by kernel_rfl) (by kernel_rfl) (by kernel_rfl) (by kernel_rfl) (fun _ _ _ h => h) (Or.inl ⟨by rfl, ?_⟩) (by assumption) ?_
  rotate_left 1
  · (intro w0 hSw; (try dsimp only at hSw); go_split_ands; go_simp; (try with_reducible rfl))
  try simp only [Act.put, List.setIfInBounds_toArray, List.set_cons_zero, List.set_cons_succ, List.getElem_toArray, List.getElem_cons_zero, List.getElem_cons_succ]
  refine' rl_take (i := 3) (v := _) rfl (by kernel_rfl) (by kernel_rfl) (by kernel_rfl) (by kernel_rfl) (fun _ _ _ h => h) (Or.inl ⟨by rfl, ?_⟩) (by assumption) ?_
  rotate_left 1
  · (intro w0 hSw; (try dsimp only at hSw); go_split_ands; go_simp; (try with_reducible rfl))
  try simp only [Act.put, List.setIfInBounds_toArray, List.set_cons_zero, List.set_cons_succ, List.getElem_toArray, List.getElem_cons_zero, List.getElem_cons_succ]
  refine' rl_take (i := 4) (v := _) rfl (by kernel_rfl) (by kernel_rfl) (by kernel_rfl) (by kernel_rfl) (fun _ _ _ h => h) (Or.inl ⟨by rfl, ?_⟩) (by assumption) ?_
  rotate_left 1
  · (intro w0 hSw; (try dsimp only at hSw); go_split_ands; go_simp; (try with_reducible rfl))
  try simp only [Act.put, List.setIfInBounds_toArray, List.set_cons_zero, List.set_cons_succ, List.getElem_toArray, List.getElem_cons_zero, List.getElem_cons_succ]
  refine' rl_take (i := 5) (v := _) rfl (by kernel_rfl) (by kernel_rfl) (by kernel_rfl) (by kernel_rfl) (fun _ _ _ h => h) (yieldsIf_load_mid (by rfl) 69 (.tmp 10) rfl gc 0 rfl [.int .i64 3, .slice la load.length lc] _ (fun _ h => h.2) Tryd.underlying69 rfl sz2) (by assumption) ?_
  try simp only [Act.put, List.setIfInBounds_toArray, List.set_cons_zero, List.set_cons_succ, List.getElem_toArray, List.getElem_cons_zero, List.getElem_cons_succ]
  clear hHeld
  refine rl_act (i := 6) (by kernel_rfl) rfl (fun K hK => ?_)
  (refine st_buildSlice rfl 70 1 #[(0, .tmp 44)] #[(0, .agg #[.int .i64 3, .slice la load.length lc])] rfl (by simp [Act.eval]) ?_; refine ⟨_, _, run_buildSlice_one _ Tryd.underlying70 info_content (cs := #[.int .i64 3, .slice la load.length lc]) rfl (by omega) (by omega), ?_⟩; try simp only [Act.put, List.setIfInBounds_toArray, List.set_cons_zero, List.set_cons_succ, List.getElem_toArray, List.getElem_cons_zero, List.getElem_cons_succ])
  have ka : Keeps [] w4 (w4.drew.alloc (.cells #[.int .i64 3, .slice la load.length lc] 69 (0, 0))) := ((Keeps.refl [] w4).drew).alloc _
  have KA := Lib.hid ka
  clear ka
  refine hK.out _ _ ?_ (fun hHeld => ?_)
  · exact ⟨S3.out _ KA.out, rangeAt_of_heap (rangeAt_all HC4.out) (KA.out.block gc (lt_of_heap HC4.out) (by simp))⟩
  clear hK K
  try simp only [Act.put, List.setIfInBounds_toArray, List.set_cons_zero, List.set_cons_succ, List.getElem_toArray, List.getElem_cons_zero, List.getElem_cons_succ]
  clear hHeld
  refine rl_act (i := 7) (by kernel_rfl) rfl (fun K hK => ?_)
  obtain ⟨i0, hi0, hz0, hz1, hz2⟩ := info_parts info_content
  refine step_append_lies _ rfl (.tmp 43) (.tmp 45) 70 rfl 0 69 i0 (.agg #[.int .i64 0, .slice none 0 0]) 2 32 Tryd.underlying70 hi0 hz0 hz1 hz2 rfl (by omega) (.slice sa m scp) m (stagedC S.C.kept) (by rfl) ((show w4.drew.ownsRow _ _ _ _ _ _ from HST.out).alloc _) ⟨w4.heap.size, 0, none⟩ 1 1 [.int .i64 3, .slice la load.length lc] (by rfl) rfl
    (World.news_of_block (cs := #[.int .i64 3, .slice la load.length lc]) (t := 69) (fr := (0, 0)) (heap_new_at rfl)) (content_ones _ _ _ _) (by omega) (by have := HN.out; have := HM.out; have := HN4.out; have := HD2.out.ok.2.1; have := HH.out.room; have := HH.out.mark; simp only [maxLen]; omega) (by have := HM.out; have := HH.out.room; have := HH.out.mark; omega) (by omega) (w4.heap.size + 1) (by simp) ?_
  intro gq cap w5 hown5 hgr5 hat5 hlt5
  have HN1 := Lib.hid HH.out.n1
  have hs5 : w5.heap[s]? = w4.heap[s]? := by
    have hlt := lt_of_heap HH4.out.root
    rw [hgr5.block s (by simp; omega) (fun e => HN1.out.2.2.2.1 e.symm)]
    exact KA.out.block s hlt (by simp)
  have hgc5 : w5.heap[gc]? = w4.heap[gc]? := by
    have hlt := lt_of_heap HC4.out
    have hb := HH.out.lt
    rw [hgr5.block gc (by simp; omega) (fun e => by have := (HH.out.staged.lt gc e.symm).2; have := HGW.out; omega)]
    exact KA.out.block gc hlt (by simp)
  have m3 : w5.cell? ⟨s, 3, none⟩ = some (.slice sa m scp) := (cell_of_heap hs5 3).trans c3
  have g3 : w5.frozen? ⟨s, 3, none⟩ = false := frozen_of_row w5 s 3 _ _ (hs5.trans HH4.out.root)
  have HR5 := Lib.hid (rangeAt_of_heap (rangeAt_all HC4.out) hgc5)
  have HC5 := Lib.hid (hgc5.trans HC4.out)
  have HOWN5 := Lib.hid hown5
  have HGR5 := Lib.hid hgr5
  have HAT5 := Lib.hid hat5
  have HS5 := Lib.hid hs5
  clear hown5 hgr5 hat5 hlt5 hs5 hgc5 i0 hi0 hz0 hz1 hz2
  refine hK.out _ _ ?_ (fun hHeld => ?_)
  · exact ⟨m3, HR5.out⟩
  clear hK K
  try simp only [Act.put, List.setIfInBounds_toArray, List.set_cons_zero, List.set_cons_succ, List.getElem_toArray, List.getElem_cons_zero, List.getElem_cons_succ]
  refine rl_act (i := 8) (by kernel_rfl) rfl (fun K hK => ?_)
  go_simp
  refine hK.out _ _ ?_ (fun hHeld => ?_)
  · exact hHeld
  clear hK K
  try simp only [Act.put, List.setIfInBounds_toArray, List.set_cons_zero, List.set_cons_succ, List.getElem_toArray, List.getElem_cons_zero, List.getElem_cons_succ]
  refine' rl_take (i := 9) (v := _) rfl (by kernel_rfl) (by kernel_rfl) (by kernel_rfl) (by kernel_rfl) (fun _ _ _ h => h) (Or.inl ⟨by rfl, ?_⟩) (by assumption) ?_
  rotate_left 1
  · (intro w0 hSw; (try dsimp only at hSw); go_split_ands; go_simp; (try with_reducible rfl))
  try simp only [Act.put, List.setIfInBounds_toArray, List.set_cons_zero, List.set_cons_succ, List.getElem_toArray, List.getElem_cons_zero, List.getElem_cons_succ]
  refine rl_last (by kernel_rfl) (by kernel_rfl) rfl (fun K hK => ?_)
  go_simp
  refine hK.out _ _ ?_
  clear hK K
  try simp only [Act.put, List.setIfInBounds_toArray, List.set_cons_zero, List.set_cons_succ, List.getElem_toArray, List.getElem_cons_zero, List.getElem_cons_succ]
  obtain ⟨sv', hsv⟩ : ∃ x, x = Value.slice (some ⟨gq, 0, none⟩) (m + 1) cap := ⟨_, rfl⟩
  obtain ⟨w6, hw6⟩ : ∃ x, x = w5.setCell ⟨s, 3, none⟩ (.slice (some ⟨gq, 0, none⟩) (m + 1) cap) := ⟨_, rfl⟩
  have hoth6 : ∀ k, k ≠ s → w6.heap[k]? = w5.heap[k]? := fun k hk => by rw [hw6]; exact Below.heap_setCell w5 _ _ k hk
  have hs4 : s < w.heap.size := lt_of_heap HH.out.root
  have hfar : ∀ k, k < w4.heap.size → (Value.slice sa m scp).ownBlock ≠ some k → k ≠ s → w6.heap[k]? = w4.heap[k]? := fun k h1 h2 h3 => by
    rw [hoth6 k h3, HGR5.out.block k (by simp; omega) (fun e => h2 e.symm)]
    exact KA.out.block k h1 (by simp)
  have hroot6 : w6.heap[s]? = some (.cells (stC bf c sv') 75 (0, 0)) := by
    rw [hw6, hsv]
    exact heap_setCell_same w5 s 3 _ _ _ (HS5.out.trans HH4.out.root)
  have hsize : w4.heap.size ≤ w6.heap.size := by
    have h1 := HGR5.out.size
    have h2 : w6.heap.size = w5.heap.size := by rw [hw6]; simp [World.setCell]
    simp at h1
    omega
  have hgqs : gq ≠ s := by
    rcases HAT5.out with e | e
    · exact fun e1 => HN1.out.2.2.2.1 (by rw [e, e1])
    · have := HK4.out.size; omega
  have hgqc : ∀ k ∈ caF c bm S.C, gq ≠ k := fun k hk e1 => by
    rcases HAT5.out with e | e
    · exact HH.out.n2 k hk (by rw [e, e1])
    · have := HH.out.lt k (mem_stF.2 (.inr (.inr (.inl hk)))); have := HK4.out.size; omega
  have hcache6 : CacheIn w6 c bm S.C := HH4.out.cache.keep (fun k hk => hfar k (HH4.out.cache.lt k hk) (HH.out.n2 k hk) (fun e => HN1.out.2.1 (e ▸ hk)))
  have hfile6 : FileAt w6 bf b S.f := (hfar bf (lt_of_heap HH4.out.file) HN1.out.2.2.2.2 HN1.out.1.symm).trans HH4.out.file
  have hlv6 : OwnB w6 (.slice la load.length lc) load := ownsRow_keep HLV.out (fun k hk => by
    obtain ⟨l1, l2⟩ := HLN.out k hk
    exact hfar k l2 (fun e => by have := (HH.out.staged.lt k e).2; omega) (by omega))
  have hgc6 : w6.heap[gc]? = some (.cells #[.int .i64 3, .slice la load.length lc] 69 (0, 0)) := (hoth6 gc (by have := HGW.out; omega)).trans HC5.out
  have hown6 : w6.ownsRow 0 69 2 sv' (m + 1) (stagedC S.C.kept ++ [.int .i64 3, .slice la load.length lc]) := by
    rw [hsv]
    exact ownsRow_keep HOWN5.out (fun k hk => by
      simp only [Value.ownBlock, Option.some.injEq] at hk
      subst hk
      exact hoth6 gq hgqs)
  have hall6 : S.C.all.length < 900000 := by
    have h1 := HH.out.few
    have h2 := HH.out.room
    have h3 := HH.out.mark
    simp only [Ca.all, List.length_append]
    omega
  have hnew6 : ∀ e ∈ S.C.all, e.key ≠ N := fun e he => by
    have hN := HN.out
    rcases List.mem_append.1 he with he | he
    · have := HH.out.old e he; omega
    · obtain ⟨i, hi⟩ := List.mem_iff_getElem?.1 he
      have h1 := HH.out.keys i e hi
      have h2 := (List.getElem?_eq_some_iff.1 hi).1
      omega
  have hNb : 2 ≤ N ∧ N < 4096 := ⟨N0.out, by have := HN4.out; have := HQ1.out; omega⟩
  have CH := Lib.hid (caHold_new (w := w6.drew) (kind := 3) (hcache6.keep (fun _ _ => rfl)) hnew6 (WalkArith.wf_i64 (by omega)) hlv6 hall6)
  have HROOT6 := Lib.hid hroot6
  have HFILE6 := Lib.hid hfile6
  have HOWN6 := Lib.hid hown6
  have HC6 := Lib.hid (show w6.cell? ⟨s, 2, none⟩ = some (.pointer (some ⟨c, 0, none⟩)) from cell_sets_of hroot6 rfl)
  have HGC6 := Lib.hid (rangeAt_all hgc6)
  have HGCB := Lib.hid (show gc ∉ caF c bm S.C ∧ s ∉ caF c bm S.C from ⟨fun hm => by have := HH.out.lt gc (mem_stF.2 (.inr (.inr (.inl hm)))); have := HGW.out; omega, HN1.out.2.1⟩)
  have HGQ := Lib.hid (And.intro hgqs hgqc)
  have HNB := Lib.hid hNb
  have HSV := Lib.hid hsv
  have HSZ6 := Lib.hid hsize
  have hk6 : Keeps (stF s bf c bm (.slice sa m scp) S) w w6 := by
    rw [hw6]
    have k1 : Keeps (stF s bf c bm (.slice sa m scp) S) w (w4.drew.alloc (.cells #[.int .i64 3, .slice la load.length lc] 69 (0, 0))) := (HK4.out.trans (G := []) KA.out (by simp)).mono (by simp)
    have k2 : Keeps (stF s bf c bm (.slice sa m scp) S) w w5 := k1.grown HGR5.out (fun k hk => .inl (mem_stF.2 (.inr (.inr (.inr hk)))))
    exact k2.setCell (p := ⟨s, 3, none⟩) (.inl (mem_stF.2 (.inl rfl))) _
  have HK6 := Lib.hid hk6
  have HLV6 := Lib.hid hlv6
  rw [show w5.setCell ⟨s, 3, none⟩ (.slice (some ⟨gq, 0, none⟩) (m + 1) cap) = w6 from hw6.symm]
  clear hw6 hoth6 hs4 hfar hroot6 hsize hgqs hgqc hcache6 hfile6 hlv6 hgc6 hown6 hall6 hnew6 hNb hsv hk6 hHeld c3 f3 m3 g3
  go_upto_region 13 with fail
  refine wp_region_held_drew (S := (fun w' => w'.cell? ⟨s, 2, none⟩ = some (.pointer (some ⟨c, 0, none⟩)) ∧ w'.rangeAt gc 0 [.int .i64 3, .slice la load.length lc])) (by kernel_rfl) ?_ (fun hHeld => ?_)
  · exact ⟨HC6.out, HGC6.out⟩
  refine' wpAnyH_take (i := 0) (v := _) rfl (by kernel_rfl) (by kernel_rfl) (by kernel_rfl) (fun _ _ _ h => h) (Or.inl ⟨by rfl, ?_⟩) (by assumption) ?_
  rotate_left 1
  · (intro w0 hSw; (try dsimp only at hSw); go_split_ands; go_simp; (try with_reducible rfl))
  try simp only [Act.put, List.setIfInBounds_toArray, List.set_cons_zero, List.set_cons_succ, List.getElem_toArray, List.getElem_cons_zero, List.getElem_cons_succ]
  refine' wpAnyH_take (i := 1) (v := _) rfl (by kernel_rfl) (by kernel_rfl) (by kernel_rfl) (fun _ _ _ h => h) (Or.inl ⟨by rfl, ?_⟩) (by assumption) ?_
  rotate_left 1
  · (intro w0 hSw; (try dsimp only at hSw); go_split_ands; go_simp; (try with_reducible rfl))
  try simp only [Act.put, List.setIfInBounds_toArray, List.set_cons_zero, List.set_cons_succ, List.getElem_toArray, List.getElem_cons_zero, List.getElem_cons_succ]
  refine' wpAnyH_take (i := 2) (v := _) rfl (by kernel_rfl) (by kernel_rfl) (by kernel_rfl) (fun _ _ _ h => h) (Or.inl ⟨by rfl, ?_⟩) (by assumption) ?_
  rotate_left 1
  · (intro w0 hSw; (try dsimp only at hSw); go_split_ands; go_simp; (try with_reducible rfl))
  try simp only [Act.put, List.setIfInBounds_toArray, List.set_cons_zero, List.set_cons_succ, List.getElem_toArray, List.getElem_cons_zero, List.getElem_cons_succ]
  refine' wpAnyH_take (i := 3) (v := _) rfl (by kernel_rfl) (by kernel_rfl) (by kernel_rfl) (fun _ _ _ h => h) (Or.inl ⟨by rfl, ?_⟩) (by assumption) ?_
  rotate_left 1
  · (intro w0 hSw; (try dsimp only at hSw); go_split_ands; go_simp; (try with_reducible rfl))
  try simp only [Act.put, List.setIfInBounds_toArray, List.set_cons_zero, List.set_cons_succ, List.getElem_toArray, List.getElem_cons_zero, List.getElem_cons_succ]
  refine' wpAnyH_take (i := 4) (v := _) rfl (by kernel_rfl) (by kernel_rfl) (by kernel_rfl) (fun _ _ _ h => h) (Or.inl ⟨by rfl, ?_⟩) (by assumption) ?_
  rotate_left 1
  · (intro w0 hSw; (try dsimp only at hSw); go_split_ands; go_simp; (try with_reducible rfl))
  try simp only [Act.put, List.setIfInBounds_toArray, List.set_cons_zero, List.set_cons_succ, List.getElem_toArray, List.getElem_cons_zero, List.getElem_cons_succ]
  refine' wpAnyH_take (i := 5) (v := _) rfl (by kernel_rfl) (by kernel_rfl) (by kernel_rfl) (fun _ _ _ h => h) (yieldsIf_load_mid (by rfl) 69 (.tmp 10) rfl gc 0 rfl [.int .i64 3, .slice la load.length lc] _ (fun _ h => h.2) Tryd.underlying69 rfl sz2) (by assumption) ?_
  try simp only [Act.put, List.setIfInBounds_toArray, List.set_cons_zero, List.set_cons_succ, List.getElem_toArray, List.getElem_cons_zero, List.getElem_cons_succ]
  clear hHeld
  refine wpAnyH_ready (rs := [6]) (by kernel_rfl) (by simp) ?_
  refine AllReadyH.cons rfl (fun K hK => ?_) AllReadyH.nil
  go_simp
  refine CH.out.mono ?_
  rintro e w7 ⟨rfl, eb, hc7, heb, hk7⟩
  have hk67 : Keeps (caF c bm S.C) w6 w7 := ⟨hk7.os, hk7.tape, hk7.output, hk7.size, hk7.block⟩
  have HK7 := Lib.hid hk67
  have HC7 := Lib.hid hc7
  have HEB := Lib.hid (show w6.heap.size ≤ eb from heb)
  clear hk7 hk67 hc7 heb CH
  refine hK.out _ _ ?_ (fun hHeld => ?_)
  · have hs7 := HK7.out.block s (lt_of_heap HROOT6.out) HGCB.out.2
    refine ⟨(cell_of_heap hs7 2).trans HC6.out, rangeAt_of_heap HGC6.out (HK7.out.block gc ?_ HGCB.out.1)⟩
    have := lt_of_heap HC4.out
    have := HSZ6.out
    omega
  clear hK K
  try simp only [Act.put, List.setIfInBounds_toArray, List.set_cons_zero, List.set_cons_succ, List.getElem_toArray, List.getElem_cons_zero, List.getElem_cons_succ]
  refine wpAnyH_done (by kernel_rfl) ?_ _
  clear hHeld
  go_wp2_with fail
  go_ret2
  refine ⟨rfl, eb, _, sv', ⟨?_, ?_, HC7.out, ?_, ?_, HH.out.old, HH.out.mark, ?_, HH.out.few, ?_, ?_⟩, ?_, ?_⟩
  · exact (HK7.out.block s (lt_of_heap HROOT6.out) HGCB.out.2).trans HROOT6.out
  · exact (HK7.out.block bf (lt_of_heap HFILE6.out) HN1.out.2.2.1).trans HFILE6.out
  · have e1 : (S.stage ⟨eb, N, 3, .slice la load.length lc, load⟩).C.kept = S.C.kept ++ [⟨eb, N, 3, .slice la load.length lc, load⟩] := rfl
    rw [e1, stagedC_snoc, List.length_append, ← HM.out]
    refine ownsRow_keep HOWN6.out (fun k hk => HK7.out.block k (HOWN6.out.lt k hk).2 (fun hm => ?_))
    rw [HSV.out] at hk
    simp only [Value.ownBlock, Option.some.injEq] at hk
    exact HGQ.out.2 k hm hk
  · intro i e hi
    have e1 : (S.stage ⟨eb, N, 3, .slice la load.length lc, load⟩).C.kept = S.C.kept ++ [⟨eb, N, 3, .slice la load.length lc, load⟩] := rfl
    rw [e1] at hi
    by_cases hlt : i < S.C.kept.length
    · rw [List.getElem?_append_left hlt] at hi
      exact HH.out.keys i e hi
    · rw [List.getElem?_append_right (by omega)] at hi
      have h0 : i - S.C.kept.length = 0 := by
        have := (List.getElem?_eq_some_iff.1 hi).1
        simp at this
        omega
      rw [h0] at hi
      simp only [List.getElem?_cons_zero, Option.some.injEq] at hi
      subst hi
      show N = S.f.sup.mark + i
      rw [HN.out]
      omega
  · have e1 : (S.stage ⟨eb, N, 3, .slice la load.length lc, load⟩).C.kept = S.C.kept ++ [⟨eb, N, 3, .slice la load.length lc, load⟩] := rfl
    rw [e1, List.length_append]
    have h1 := HN.out
    have h2 := HNB.out
    show S.f.sup.mark + ((S.C.kept.length + 1 : Nat) : Int) ≤ 4096
    omega
  · have hsw : s < w.heap.size := lt_of_heap HH.out.root
    have hbw : bf < w.heap.size := lt_of_heap HH.out.file
    have hle : w.heap.size ≤ eb := Nat.le_trans (Nat.le_trans HK4.out.size HSZ6.out) HEB.out
    have hmem : ∀ k, k ∈ caF c bm (S.stage ⟨eb, N, 3, .slice la load.length lc, load⟩).C → k ∈ caF c bm S.C ∨ w.heap.size ≤ k := fun k hk => by
      have e1 : (S.stage ⟨eb, N, 3, .slice la load.length lc, load⟩).C.all = S.C.all ++ [⟨eb, N, 3, .slice la load.length lc, load⟩] := by simp [St.stage, Ca.all]
      rcases mem_caF.1 hk with rfl | rfl | ⟨e, he, rfl⟩ | ⟨e, he, hv⟩
      · exact .inl (mem_caF.2 (.inl rfl))
      · exact .inl (mem_caF.2 (.inr (.inl rfl)))
      · rw [e1] at he
        rcases List.mem_append.1 he with he | he
        · exact .inl (mem_caF.2 (.inr (.inr (.inl ⟨e, he, rfl⟩))))
        · obtain rfl : e = ⟨eb, N, 3, .slice la load.length lc, load⟩ := by simpa using he
          exact .inr hle
      · rw [e1] at he
        rcases List.mem_append.1 he with he | he
        · exact .inl (mem_caF.2 (.inr (.inr (.inr ⟨e, he, hv⟩))))
        · obtain rfl : e = ⟨eb, N, 3, .slice la load.length lc, load⟩ := by simpa using he
          exact .inr (HLN.out k hv).1
    refine ⟨HN1.out.1, fun hm => (hmem s hm).elim HN1.out.2.1 (fun h => by omega), fun hm => (hmem bf hm).elim HN1.out.2.2.1 (fun h => by omega), ?_, ?_⟩
    · rw [HSV.out]
      simp only [Value.ownBlock, ne_eq, Option.some.injEq]
      exact HGQ.out.1
    · rw [HSV.out]
      simp only [Value.ownBlock, ne_eq, Option.some.injEq]
      rcases HAT5.out with e | e
      · exact fun e1 => HN1.out.2.2.2.2 (by rw [e, e1])
      · have := HK4.out.size; omega
  · intro k hk e0
    rw [HSV.out] at e0
    simp only [Value.ownBlock, Option.some.injEq] at e0
    have e1 : (S.stage ⟨eb, N, 3, .slice la load.length lc, load⟩).C.all = S.C.all ++ [⟨eb, N, 3, .slice la load.length lc, load⟩] := by simp [St.stage, Ca.all]
    have hg6 := (HOWN6.out.lt gq (by rw [HSV.out]; rfl)).2
    rcases mem_caF.1 hk with h | h | ⟨e, he, h⟩ | ⟨e, he, hv⟩
    · exact HGQ.out.2 k (mem_caF.2 (.inl h)) e0
    · exact HGQ.out.2 k (mem_caF.2 (.inr (.inl h))) e0
    · rw [e1] at he
      rcases List.mem_append.1 he with he | he
      · exact HGQ.out.2 k (mem_caF.2 (.inr (.inr (.inl ⟨e, he, h⟩)))) e0
      · obtain rfl : e = ⟨eb, N, 3, .slice la load.length lc, load⟩ := by simpa using he
        have h : eb = k := h
        have := HEB.out
        omega
    · rw [e1] at he
      rcases List.mem_append.1 he with he | he
      · exact HGQ.out.2 k (mem_caF.2 (.inr (.inr (.inr ⟨e, he, hv⟩)))) e0
      · obtain rfl : e = ⟨eb, N, 3, .slice la load.length lc, load⟩ := by simpa using he
        obtain ⟨l1, l2⟩ := HLN.out k hv
        rcases HAT5.out with e2 | e2
        · have := (HH.out.staged.lt gq e2).2; omega
        · omega
  · exact HK6.out.trans (G := caF c bm S.C) HK7.out (fun k hk => .inl (mem_stF.2 (.inr (.inr (.inl hk)))))
  · intro k hk
    have hle : w.heap.size ≤ eb := Nat.le_trans (Nat.le_trans HK4.out.size HSZ6.out) HEB.out
    have e1 : (S.stage ⟨eb, N, 3, .slice la load.length lc, load⟩).C.all = S.C.all ++ [⟨eb, N, 3, .slice la load.length lc, load⟩] := by simp [St.stage, Ca.all]
    rcases mem_stF.1 hk with h | h | h | h
    · exact .inl (mem_stF.2 (.inl h))
    · exact .inl (mem_stF.2 (.inr (.inl h)))
    · rcases mem_caF.1 h with h | h | ⟨e, he, h⟩ | ⟨e, he, hv⟩
      · exact .inl (mem_stF.2 (.inr (.inr (.inl (mem_caF.2 (.inl h))))))
      · exact .inl (mem_stF.2 (.inr (.inr (.inl (mem_caF.2 (.inr (.inl h)))))))
      · rw [e1] at he
        rcases List.mem_append.1 he with he | he
        · exact .inl (mem_stF.2 (.inr (.inr (.inl (mem_caF.2 (.inr (.inr (.inl ⟨e, he, h⟩))))))))
        · obtain rfl : e = ⟨eb, N, 3, .slice la load.length lc, load⟩ := by simpa using he
          exact .inr (by have h : eb = k := h; omega)
      · rw [e1] at he
        rcases List.mem_append.1 he with he | he
        · exact .inl (mem_stF.2 (.inr (.inr (.inl (mem_caF.2 (.inr (.inr (.inr ⟨e, he, hv⟩))))))))
        · obtain rfl : e = ⟨eb, N, 3, .slice la load.length lc, load⟩ := by simpa using he
          exact .inr (HLN.out k hv).1
    · rw [HSV.out] at h
      simp only [Value.ownBlock, Option.some.injEq] at h
      rcases HAT5.out with e2 | e2
      · exact .inl (mem_stF.2 (.inr (.inr (.inr (by rw [e2, h])))))
      · exact .inr (by have := HK4.out.size; omega)
end Go.Proofs.YtojlojdkhegbkaaDoor

/-
  Package store: Load of a staged page; Load where the store is not live.
-/
namespace Go.Proofs.YtojlojdkhegbkaaDoor
set_option linter.unusedVariables false
set_option linter.unusedSimpArgs false
open Go.RowKit

theorem StoreIn.hit {w w' : World} {s b bf c bm : Nat} {S : St} {sv : Value} (h : StoreIn w s b S bf c bm sv) (x : Int) (hc : CacheIn w' c bm { S.C with hits := x }) (hk : Keeps [c] w w') : StoreIn w' s b { S with C := { S.C with hits := x } } bf c bm sv := by
  have hcm : c ∈ caF c bm S.C := mem_caF.2 (.inl rfl)
  have ns : s ≠ c := fun e => h.n1.2.1 (e ▸ hcm)
  have nb : bf ≠ c := fun e => h.n1.2.2.1 (e ▸ hcm)
  exact ⟨(hk.block s (lt_of_heap h.root) (by simpa using ns)).trans h.root, (hk.block bf (lt_of_heap h.file) (by simpa using nb)).trans h.file, hc,
    ownsRow_keep h.staged (fun k hk' => hk.block k (h.staged.lt k hk').2 (by simp only [List.mem_singleton]; exact fun e => h.n2 c hcm (e ▸ hk'))), h.keys, h.old, h.mark, h.room, h.few, h.n1, h.n2⟩
set_option maxRecDepth 100000 in
set_option maxHeartbeats 1600000 in
theorem sLoad_staged {w : World} {s b bf c bm : Nat} {S : St} {sv : Value} {d : D} {F : List Nat} {e : Ent} (h : StoreIn w s b S bf c bm sv) (hd : DiskAt w b d F) (hl : liveE d S.f = 0) (he : e ∈ S.C.kept) (hll : e.load.length ≤ 246) :
    Calls Tryd.prog 51 #[.pointer (some ⟨s, 0, none⟩), .int .i64 e.key] w fun r w' => ∃ a cp, r = .returned (.tuple #[.int .i64 e.kind, .slice a e.load.length cp, .int .i64 0]) ∧ OwnB w' (.slice a e.load.length cp) e.load ∧ (∀ k, (Value.slice a e.load.length cp).ownBlock = some k → w.heap.size ≤ k) ∧
      StoreIn w' s b { S with C := { S.C with hits := wrap64 (S.C.hits + 1) } } bf c bm sv ∧ Keeps [c] w w' := by
  have hall : e ∈ S.C.all := List.mem_append_right _ he
  obtain ⟨i, hi⟩ := List.mem_iff_getElem?.1 he
  have hkey := h.keys i e hi
  have hil := (List.getElem?_eq_some_iff.1 hi).1
  have hmark := h.mark
  obtain ⟨N, hN⟩ : ∃ N : Int, N = S.f.sup.mark + S.C.kept.length := ⟨_, rfl⟩
  have q1 : ¬ e.key < 2 := by omega
  have q2 : ¬ N ≤ e.key := by omega
  obtain ⟨la, lc, hlv⟩ := owns_slice (h.cache.loads e hall)
  have CL := sLive_any h hd
  rw [hl] at CL
  have CL' := Lib.hid CL
  have HH := Lib.hid h
  have HN := Lib.hid hN
  have HE := Lib.hid he
  have HALL := Lib.hid hall
  have HLV := Lib.hid hlv
  have HLL := Lib.hid hll
  clear h hd hl he hll hall hi hkey hil hmark hN hlv CL
  go_enter Tryd.func51, Tryd.ntmps51
  go_wp2_with fail
  refine CL'.out.mono ?_
  rintro r w1 ⟨rfl, hk1⟩
  have HH1 := Lib.hid (HH.out.keeps hk1 (by simp))
  have HK1 := Lib.hid hk1
  have CN := sNext_any HH1.out
  rw [← HN.out] at CN
  have CN' := Lib.hid CN
  clear hk1 CL' CN
  go_wp2_with fail
  refine CN'.out.mono ?_
  rintro r w2 ⟨rfl, hk2⟩
  have HH2 := Lib.hid (HH1.out.keeps hk2 (by simp))
  have HK2 := Lib.hid (HK1.out.trans (G := []) hk2 (by simp))
  have c2 := HH2.out.cells.2.1
  have CG := Lib.hid (caGet_held HH2.out.cache HE.out)
  clear hk2 CN' HH1 HK1
  go_wp2_with fail
  refine CG.out.mono ?_
  rintro r w3 ⟨rfl, hc3, hk3⟩
  have HH3 := Lib.hid (HH2.out.hit _ hc3 hk3)
  obtain ⟨w4, hw4⟩ : ∃ x, x = w3.alloc (.cells #[.int .i64 e.kind, e.lv] 69 (0, 0)) := ⟨_, rfl⟩
  obtain ⟨gc, hgc⟩ : ∃ x, x = w3.heap.size := ⟨_, rfl⟩
  have hst4 := run_storeAt_new (P := Tryd.prog) w3 69 #[.int .i64 0, .slice none 0 0] #[.int .i64 e.kind, e.lv] (by rw [size_content]; rfl) rfl (by rw [HLV.out]; exact all_oneCell_toArray (content_ones _ _ _ _))
  have hk34 : Keeps [] w3 w4 := by rw [hw4]; exact (Keeps.refl _ _).alloc _
  have hc4 : w4.heap[gc]? = some (.cells #[.int .i64 e.kind, e.lv] 69 (0, 0)) := by rw [hw4]; exact heap_new_at hgc
  have HH4 := Lib.hid (HH3.out.keeps hk34 (by simp))
  have hload4 := HH4.out.cache.loads e HALL.out
  have CC := Lib.hid (sCopied_any (w := w4.drew) (l := e.load) (v := e.lv) (ownB_bytes (ownsRow_keep hload4 (fun _ _ => rfl))) (by have := HLL.out; omega))
  have k4 : w4.cell? ⟨gc, 0, none⟩ = some (.int .i64 e.kind) := cell_sets_of hc4 rfl
  have k5 : w4.cell? ⟨gc, 1, none⟩ = some e.lv := cell_sets_of hc4 rfl
  have HST4 := Lib.hid hst4
  have HW4 := Lib.hid hw4
  have HGC := Lib.hid hgc
  have HC4 := Lib.hid hc4
  have HK4 := Lib.hid (((HK2.out.mono (G := [c]) (by simp)).trans (G := [c]) hk3 (fun _ h => .inl h)).trans (G := []) hk34 (by simp))
  clear hc3 hk3 hw4 hgc hst4 hk34 hc4 hload4 c2 CG
  go_upto_region 8 with (first | (refine wl_store rfl 69 (.tmp 8) (.tmp 33) rfl ?_; refine ⟨_, HST4.out, ?_⟩; try simp only [Act.put, List.setIfInBounds_toArray, List.set_cons_zero, List.set_cons_succ, List.getElem_toArray, List.getElem_cons_zero, List.getElem_cons_succ]))
  rw [← HW4.out, ← HGC.out]
  refine wp_region_held_drew (S := (fun w' => w'.cell? ⟨gc, 0, none⟩ = some (.int .i64 e.kind) ∧ w'.cell? ⟨gc, 1, none⟩ = some e.lv)) (by kernel_rfl) ?_ (fun hHeld => ?_)
  · exact ⟨k4, k5⟩
  refine' wpAnyH_take (i := 0) (v := _) rfl (by kernel_rfl) (by kernel_rfl) (by kernel_rfl) (fun _ _ _ h => h) (Or.inl ⟨by rfl, ?_⟩) (by assumption) ?_
  rotate_left 1
  · (intro w0 hSw; (try dsimp only at hSw); go_split_ands; go_simp; (try with_reducible rfl))
  try simp only [Act.put, List.setIfInBounds_toArray, List.set_cons_zero, List.set_cons_succ, List.getElem_toArray, List.getElem_cons_zero, List.getElem_cons_succ]
  refine' wpAnyH_take (i := 1) (v := _) rfl (by kernel_rfl) (by kernel_rfl) (by kernel_rfl) (fun _ _ _ h => h) (Or.inl ⟨by rfl, ?_⟩) (by assumption) ?_
  rotate_left 1
  · (intro w0 hSw; (try dsimp only at hSw); go_split_ands; go_simp; (try with_reducible rfl))
  try simp only [Act.put, List.setIfInBounds_toArray, List.set_cons_zero, List.set_cons_succ, List.getElem_toArray, List.getElem_cons_zero, List.getElem_cons_succ]
  refine' wpAnyH_take (i := 2) (v := _) rfl (by kernel_rfl) (by kernel_rfl) (by kernel_rfl) (fun _ _ _ h => h) (Or.inl ⟨by rfl, ?_⟩) (by assumption) ?_
  rotate_left 1
  · (intro w0 hSw; (try dsimp only at hSw); go_split_ands; go_simp; (try with_reducible rfl))
  try simp only [Act.put, List.setIfInBounds_toArray, List.set_cons_zero, List.set_cons_succ, List.getElem_toArray, List.getElem_cons_zero, List.getElem_cons_succ]
  refine' wpAnyH_take (i := 3) (v := _) rfl (by kernel_rfl) (by kernel_rfl) (by kernel_rfl) (fun _ _ _ h => h) (Or.inl ⟨by rfl, ?_⟩) (by assumption) ?_
  rotate_left 1
  · (intro w0 hSw; (try dsimp only at hSw); go_split_ands; go_simp; (try with_reducible rfl))
  try simp only [Act.put, List.setIfInBounds_toArray, List.set_cons_zero, List.set_cons_succ, List.getElem_toArray, List.getElem_cons_zero, List.getElem_cons_succ]
  clear hHeld k4 k5
  refine wpAnyH_ready (rs := [4]) (by kernel_rfl) (by simp) ?_
  refine AllReadyH.cons rfl (fun K hK => ?_) AllReadyH.nil
  go_simp
  refine CC.out.mono ?_
  rintro r w5 ⟨a, cp, rfl, ho, hn, hk5⟩
  have hk45 : Keeps [] w4 w5 := ((Keeps.refl [] w4).drew).trans (G := []) hk5 (by simp)
  have HO := Lib.hid ho
  have HNW := Lib.hid (fun k hk => Nat.le_trans HK4.out.size (hn k hk))
  have HK5 := Lib.hid hk45
  clear ho hn hk5 hk45
  refine hK.out _ _ ?_ (fun hHeld => ?_)
  · have hb := HK5.out.block gc (lt_of_heap HC4.out) (by simp)
    exact ⟨(cell_of_heap hb 0).trans (cell_sets_of HC4.out rfl), (cell_of_heap hb 1).trans (cell_sets_of HC4.out rfl)⟩
  clear hK K
  try simp only [Act.put, List.setIfInBounds_toArray, List.set_cons_zero, List.set_cons_succ, List.getElem_toArray, List.getElem_cons_zero, List.getElem_cons_succ]
  refine' wpAnyH_take (i := 5) (v := _) rfl (by kernel_rfl) (by kernel_rfl) (by kernel_rfl) (fun _ _ _ h => h) (Or.inl ⟨by rfl, ?_⟩) (by assumption) ?_
  rotate_left 1
  · (intro w0 hSw; (try dsimp only at hSw); go_split_ands; go_simp; (try with_reducible rfl))
  try simp only [Act.put, List.setIfInBounds_toArray, List.set_cons_zero, List.set_cons_succ, List.getElem_toArray, List.getElem_cons_zero, List.getElem_cons_succ]
  refine' wpAnyH_take (i := 6) (v := _) rfl (by kernel_rfl) (by kernel_rfl) (by kernel_rfl) (fun _ _ _ h => h) (Or.inl ⟨by rfl, ?_⟩) (by assumption) ?_
  rotate_left 1
  · (intro w0 hSw; (try dsimp only at hSw); go_split_ands; go_simp; (try with_reducible rfl))
  try simp only [Act.put, List.setIfInBounds_toArray, List.set_cons_zero, List.set_cons_succ, List.getElem_toArray, List.getElem_cons_zero, List.getElem_cons_succ]
  refine' wpAnyH_take (i := 7) (v := _) rfl (by kernel_rfl) (by kernel_rfl) (by kernel_rfl) (fun _ _ _ h => h) (Or.inl ⟨by rfl, ?_⟩) (by assumption) ?_
  rotate_left 1
  · (intro w0 hSw; (try dsimp only at hSw); go_split_ands; go_simp; (try with_reducible rfl))
  try simp only [Act.put, List.setIfInBounds_toArray, List.set_cons_zero, List.set_cons_succ, List.getElem_toArray, List.getElem_cons_zero, List.getElem_cons_succ]
  refine wpAnyH_done (by kernel_rfl) ?_ _
  clear hHeld
  go_wp2_with fail
  go_ret3
  exact ⟨a, cp, rfl, HO.out, HNW.out, HH4.out.keeps HK5.out (by simp), HK4.out.trans (G := []) HK5.out (by simp)⟩
end Go.Proofs.YtojlojdkhegbkaaDoor

/-
  A new disk behind Format: what its two slots read (no walk here).
-/
namespace Go.Proofs.YtojlojdkhegbkaaDoor
set_option linter.unusedVariables false
set_option linter.unusedSimpArgs false
open Go.RowKit

def pageOf (img : List UInt8) (p : Nat) : List UInt8 := (img.drop (p * 256)).take 256
theorem pageOf_set {img l : List UInt8} {p : Nat} (hl : l.length = 256) (h : p * 256 + 256 ≤ img.length) : pageOf (setPage img p l) p = l := by
  unfold pageOf setPage
  rw [List.append_assoc, List.drop_left' (by rw [List.length_take]; omega), List.take_left' hl]
theorem pageOf_other {img l : List UInt8} {p k : Nat} (hl : l.length = 256) (hk : k * 256 + 256 ≤ img.length) (hne : p ≠ k) : pageOf (setPage img k l) p = pageOf img p := by
  unfold pageOf
  apply List.ext_getElem?
  intro j
  rw [List.getElem?_take, List.getElem?_take]
  split
  · rename_i hj
    rw [List.getElem?_drop, List.getElem?_drop]
    unfold setPage
    by_cases h1 : p < k
    · rw [List.append_assoc, List.getElem?_append_left (by rw [List.length_take]; omega), List.getElem?_take_of_lt (by omega)]
    · have hlen : (img.take (k * 256) ++ l).length = k * 256 + 256 := by rw [List.length_append, List.length_take, hl]; omega
      rw [List.getElem?_append_right (by rw [hlen]; omega), hlen, List.getElem?_drop, show k * 256 + l.length + (p * 256 + j - (k * 256 + 256)) = p * 256 + j by omega]
  · rfl
theorem read_empty {d : D} (h : d.q = []) (p : Nat) : d.read p = pageOf d.img p := by
  unfold D.read
  rw [h]
  rfl
theorem new_calm (n : Nat) : (D.new n).calm := ⟨rfl, rfl⟩
theorem pageOf_zero (N p : Nat) {k : Nat} (hk : k = 256) (h : p * k + k ≤ N) : ((List.replicate N (0 : UInt8)).drop (p * k)).take k = List.replicate k 0 := by
  rw [List.drop_replicate, List.take_replicate, Nat.min_eq_left (by omega)]
theorem new_read {n p : Nat} (hp : p < n) : (D.new n).read p = List.replicate 256 0 := by
  rw [read_empty rfl]
  exact pageOf_zero (256 * n) p rfl (by omega)
theorem new_blank {n : Nat} (hn : 3 ≤ n) : chooseL ((D.new n).read 0) ((D.new n).read 1) = (55, zSup) := by
  rw [new_read (by omega), new_read (by omega), choose_blank]
/-- A new disk behind Format. -/
theorem fmt_new {n width : Nat} (hn : 3 ≤ n) (hn2 : n ≤ 4096) (h1 : 1 ≤ width) (h2 : width ≤ 32) :
    (fmtD (D.new n) width).calm ∧ (fmtD (D.new n) width).q = [] ∧ (fmtD (D.new n) width).n = n ∧ chooseL ((fmtD (D.new n) width).read 0) ((fmtD (D.new n) width).read 1) = (0, supB width n) ∧ (fmtD (D.new n) width).epoch = 0 := by
  obtain ⟨d1, hd1⟩ : ∃ d1 : D, d1 = { D.new n with reads := wrap64 (wrap64 ((D.new n).reads + 1) + 1) } := ⟨_, rfl⟩
  have c1 : d1.calm := by rw [hd1]; exact ⟨rfl, rfl⟩
  have q1 : d1.q = [] := by rw [hd1]; rfl
  have i1 : d1.img.length = 256 * n := by rw [hd1]; simp [D.new]
  have n1 : d1.n = n := by rw [hd1]; rfl
  have p1 : d1.epoch = 0 := by rw [hd1]; rfl
  have hsa : slot (supA width n) = 0 := rfl
  have hsb : slot (supB width n) = 1 := rfl
  obtain ⟨xa, hxa⟩ : ∃ x, x = supL (supA width n) := ⟨_, rfl⟩
  obtain ⟨xb, hxb⟩ : ∃ x, x = supL (supB width n) := ⟨_, rfl⟩
  have la : xa.length = 256 := by rw [hxa, supL_length]
  have lb : xb.length = 256 := by rw [hxb, supL_length]
  have e : fmtD (D.new n) width = (((d1.write 0 xa).sync).write 1 xb).sync := by
    unfold fmtD
    rw [← hd1, hxa, hxb]
    show stepD d1 (supA width n) (supB width n) 4 = _
    rw [show stepD d1 (supA width n) (supB width n) 4 = (((d1.write (slot (supA width n)) (supL (supA width n))).sync).write (slot (supB width n)) (supL (supB width n))).sync from rfl, hsa, hsb]
  obtain ⟨c2, e2⟩ := c1.write 0 xa
  obtain ⟨c3, e3⟩ := c2.sync
  obtain ⟨c4, e4⟩ := c3.write 1 xb
  obtain ⟨c5, e5⟩ := c4.sync
  have hq : (((d1.write 0 xa).sync).write 1 xb).sync.q = [] := by rw [e5]
  have hi : (((d1.write 0 xa).sync).write 1 xb).sync.img = setPage (setPage d1.img 0 xa) 1 xb := by
    rw [e5]
    dsimp only
    rw [e4]
    dsimp only
    rw [e3]
    dsimp only
    rw [e2]
    dsimp only
    rw [q1]
    rfl
  have hn' : (((d1.write 0 xa).sync).write 1 xb).sync.n = n := by
    rw [e5]
    dsimp only
    rw [e4]
    dsimp only
    rw [e3]
    dsimp only
    rw [e2]
    exact n1
  have hp' : (((d1.write 0 xa).sync).write 1 xb).sync.epoch = 0 := by
    rw [e5]
    dsimp only
    rw [e4]
    dsimp only
    rw [e3]
    dsimp only
    rw [e2]
    exact p1
  rw [e]
  refine ⟨c5, hq, hn', ?_, hp'⟩
  have l1 : (setPage d1.img 0 xa).length = 256 * n := by rw [setPage_length (by omega), i1]
  rw [read_empty hq, read_empty hq, hi, pageOf_other lb (by omega) (by omega), pageOf_set la (by omega), pageOf_set lb (by omega), hxa, hxb]
  exact (choose_two (supA_valid h1 h2 hn hn2) (supB_valid h1 h2 hn hn2) rfl rfl rfl (Int.le_refl _)).1 rfl
end Go.Proofs.YtojlojdkhegbkaaDoor

/-
  Layer 12's law: fits, opened, fresh.
-/
namespace Go.Proofs.YtojlojdkhegbkaaDoor
set_option linter.unusedVariables false
set_option linter.unusedSimpArgs false
open Go.RowKit

set_option maxRecDepth 100000 in
theorem cFits_any {w : World} (width room : Int) : Calls Tryd.prog 4 #[.int .i64 width, .int .i64 room] w fun e w' => e = .returned (.bool (decide (1 ≤ width ∧ width ≤ 32 ∧ 1 ≤ room ∧ room ≤ 4096))) ∧ w = w' := by
  obtain ⟨b, hb⟩ : ∃ b, b = decide (1 ≤ width ∧ width ≤ 32 ∧ 1 ≤ room ∧ room ≤ 4096) := ⟨_, rfl⟩
  rw [← hb]
  have HB := Lib.hid hb
  clear hb
  by_cases c1 : 1 ≤ width
  rotate_left 1
  · have hv := Lib.hid (show b = false by rw [HB.out]; simp [c1])
    go_enter Tryd.func4, Tryd.ntmps4
    go_wp2_with fail
    go_ret
    exact ⟨by rw [hv.out]; rfl, rfl⟩
  by_cases c2 : width ≤ 32
  rotate_left 1
  · have hv := Lib.hid (show b = false by rw [HB.out]; simp [c1, c2])
    go_enter Tryd.func4, Tryd.ntmps4
    go_wp2_with fail
    go_ret
    exact ⟨by rw [hv.out]; rfl, rfl⟩
  by_cases c3 : 1 ≤ room
  rotate_left 1
  · have hv := Lib.hid (show b = false by rw [HB.out]; simp [c1, c2, c3])
    go_enter Tryd.func4, Tryd.ntmps4
    go_wp2_with fail
    go_ret
    exact ⟨by rw [hv.out]; rfl, rfl⟩
  by_cases c4 : room ≤ 4096
  · have hv := Lib.hid (show b = true by rw [HB.out]; simp [c1, c2, c3, c4])
    go_enter Tryd.func4, Tryd.ntmps4
    go_wp2_with fail
    go_ret
    exact ⟨by rw [hv.out]; rfl, rfl⟩
  · have hv := Lib.hid (show b = false by rw [HB.out]; simp [c1, c2, c3, c4])
    go_enter Tryd.func4, Tryd.ntmps4
    go_wp2_with fail
    go_ret
    exact ⟨by rw [hv.out]; rfl, rfl⟩
/-- A store, over its disk, each over blocks of its own. -/
structure StoreOn (w : World) (s b : Nat) (S : St) (d : D) (F G : List Nat) : Prop where
  disk : DiskAt w b d F
  store : ∃ bf c bm sv, StoreIn w s b S bf c bm sv ∧ G = stF s bf c bm sv S
  apart : ∀ k ∈ F, k ∉ G
set_option maxRecDepth 100000 in
set_option maxHeartbeats 800000 in
theorem cOpened_ok {w : World} {b : Nat} {d : D} {F : List Nat} {s : Sup} (room : Nat) (hd : DiskAt w b d F) (hp : d.dead = false) (hch : chooseL (d.read 0) (d.read 1) = (0, s)) (hpg : s.pages = d.n) (hr : room ≤ 4096) (hm : 2 ≤ s.mark) (hm2 : s.mark ≤ 4096) :
    Calls Tryd.prog 23 #[.pointer (some ⟨b, 0, none⟩), .int .i64 room] w fun e w' => ∃ st F' G, e = .returned (.pointer (some ⟨st, 0, none⟩)) ∧ StoreOn w' st b ⟨⟨s, s.mark, wrap64 (d.epoch + 1)⟩, ⟨room, [], [], 0, 0, 0⟩⟩ (openD d) F' G ∧ From w F F' ∧ (∀ k ∈ G, w.heap.size ≤ k) ∧ Keeps F w w' := by
  have CO := Lib.hid (open_ok hd hp hch hpg)
  have HP := Lib.hid hp
  have HR := Lib.hid hr
  have HM := Lib.hid (And.intro hm hm2)
  clear hd hp hch hpg hr hm hm2
  go_enter Tryd.func23, Tryd.ntmps23
  go_wp2_with fail
  refine CO.out.mono ?_
  rintro e w1 ⟨bf, F1, rfl, hf1, hd1, hfr, hk1, hbf, hnf⟩
  have CN := Lib.hid (sNew_ok room hf1 hd1 (by unfold liveE; rw [if_neg (by intro h; exact h rfl)]; rw [if_neg (by show ¬ d.dead = true; rw [HP.out]; simp)]) HR.out HM.out.1 HM.out.2)
  have HD1 := Lib.hid hd1
  have HFR := Lib.hid hfr
  have HK1 := Lib.hid hk1
  have HBF := Lib.hid (And.intro hbf hnf)
  clear hf1 hd1 hfr hk1 hbf hnf CO
  go_wp2_with fail
  refine CN.out.mono ?_
  rintro e w2 ⟨st, c, bm, rfl, hst, hk2, hs, hc, hbm⟩
  have HST := Lib.hid hst
  have HK2 := Lib.hid hk2
  have HS := Lib.hid (And.intro hs (And.intro hc hbm))
  clear hst hk2 hs hc hbm CN
  go_wp2_with fail
  go_ret
  have hG : ∀ k ∈ stF st bf c bm (.slice none 0 0) (⟨⟨s, s.mark, wrap64 (d.epoch + 1)⟩, ⟨room, [], [], 0, 0, 0⟩⟩ : St), k = bf ∨ w1.heap.size ≤ k := fun k hk => by
    rcases mem_stF.1 hk with rfl | rfl | hk | hk
    · exact .inr HS.out.1
    · exact .inl rfl
    · rcases mem_caF.1 hk with rfl | rfl | ⟨e, he, _⟩ | ⟨e, he, _⟩
      · exact .inr HS.out.2.1
      · exact .inr HS.out.2.2
      · simp [Ca.all] at he
      · simp [Ca.all] at he
    · simp [Value.ownBlock] at hk
  refine ⟨st, F1, _, rfl, ⟨HD1.out.keeps HK2.out (fun k hk e => HBF.out.2 (by simp at e; subst e; exact hk)), ⟨bf, c, bm, _, HST.out, rfl⟩, fun k hk hg => ?_⟩, HFR.out, fun k hk => ?_, ?_⟩
  · rcases hG k hg with rfl | h
    · exact HBF.out.2 hk
    · have := HD1.out.lt k hk
      omega
  · rcases hG k hk with rfl | h
    · exact HBF.out.1
    · exact Nat.le_trans HK1.out.size h
  · exact HK1.out.trans (G := [bf]) HK2.out (fun k hk => by simp at hk; subst hk; exact .inr HBF.out.1)
set_option maxRecDepth 100000 in
set_option maxHeartbeats 800000 in
theorem cFresh_ok {w : World} {n width room : Nat} (hn : 3 ≤ n) (hn2 : n ≤ 4096) (h1 : 1 ≤ width) (h2 : width ≤ 32) (hr : room ≤ 4096) :
    Calls Tryd.prog 7 #[.int .i64 n, .int .i64 width, .int .i64 room] w fun e w' => ∃ b st F G, e = .returned (.tuple #[.pointer (some ⟨b, 0, none⟩), .pointer (some ⟨st, 0, none⟩)]) ∧
      StoreOn w' st b ⟨⟨supB width n, 2, 1⟩, ⟨room, [], [], 0, 0, 0⟩⟩ (openD (fmtD (D.new n) width)) F G ∧ (∀ k ∈ F, w.heap.size ≤ k) ∧ (∀ k ∈ G, w.heap.size ≤ k) ∧ Keeps [] w w' := by
  obtain ⟨f1, f2, f3, f4, f5⟩ := fmt_new hn hn2 h1 h2
  have CN := Lib.hid (dNew_yes (w := w) n hn hn2)
  have HF := Lib.hid (And.intro f1 (And.intro f3 (And.intro f4 f5)))
  have HB := Lib.hid (new_blank hn)
  have H12 := Lib.hid (And.intro h1 (And.intro h2 hr))
  clear f1 f2 f3 f4 f5 hn hn2 h1 h2 hr
  go_enter Tryd.func7, Tryd.ntmps7
  go_wp2_with fail
  refine CN.out.mono ?_
  rintro e w1 ⟨rfl, hk1, F1, hd1, hf1⟩
  obtain ⟨b, hb⟩ : ∃ b, b = w.heap.size + 2 := ⟨_, rfl⟩
  rw [← hb] at hd1 ⊢
  have CF := Lib.hid (format_blank hd1 (new_calm n) rfl HB.out H12.out.1 H12.out.2.1)
  have HK1 := Lib.hid hk1
  have HF1 := Lib.hid hf1
  clear hk1 hd1 hf1 hb CN
  go_wp2_with fail
  refine CF.out.mono ?_
  rintro e w2 ⟨rfl, F2, hd2, hf2, hk2⟩
  have CO := Lib.hid (cOpened_ok room hd2 HF.out.1.dead HF.out.2.2.1 (by rw [HF.out.2.1]; rfl) H12.out.2.2 (by show (2 : Int) ≤ 2; omega) (by show (2 : Int) ≤ 4096; omega))
  have HF2 := Lib.hid (HF1.out.trans hf2 HK1.out.size)
  have HK2 := Lib.hid (HK1.out.trans hk2 HF1.out)
  clear hd2 hf2 hk2 CF
  go_wp2_with fail
  refine CO.out.mono ?_
  rintro e w3 ⟨st, F3, G, rfl, hon, hf3, hg3, hk3⟩
  have HON := Lib.hid hon
  have HF3 := Lib.hid (HF2.out.trans hf3 HK2.out.size)
  have HK3 := Lib.hid (HK2.out.trans hk3 HF2.out)
  have HG3 := Lib.hid (fun k hk => Nat.le_trans HK2.out.size (hg3 k hk))
  clear hon hf3 hg3 hk3 CO
  go_wp2_with fail
  go_ret2
  have h5 : wrap64 ((fmtD (D.new n) width).epoch + 1) = 1 := by rw [HF.out.2.2.2]; simp [wrap64]
  have hon := HON.out
  rw [h5] at hon
  exact ⟨b, st, F3, G, rfl, hon, fun k hk => (HF3.out k hk).resolve_left (by simp), HG3.out, HK3.out⟩
end Go.Proofs.YtojlojdkhegbkaaDoor
