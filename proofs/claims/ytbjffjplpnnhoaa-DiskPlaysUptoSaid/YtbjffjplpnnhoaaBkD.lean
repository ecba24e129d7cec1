/-
  Things in memory: the frame's law for several things at once; the Book's things.
-/
import Derived.Test.YtbjffjplpnnhoaaBkA
import Derived.Test.YtbjffjplpnnhoaaLsB
import Derived.Laws.IdiomCopy
namespace Go.Proofs.Ytbjffjplpnnhoaa
set_option linter.unusedVariables false
set_option linter.unusedSimpArgs false
open Go.RowKit

/-- The blocks of some things. -/
def foots (L : List Thing) : List Nat := L.flatMap Thing.F
theorem mem_foots {L : List Thing} {k : Nat} : k ∈ foots L ↔ ∃ t ∈ L, k ∈ t.F := by simp [foots]
theorem foots_append (L M : List Thing) : foots (L ++ M) = foots L ++ foots M := by simp [foots]
theorem foots_cons (t : Thing) (M : List Thing) : foots (t :: M) = t.F ++ foots M := by simp [foots]
def apartT (s t : Thing) : Prop := ∀ k ∈ s.F, k ∉ t.F
theorem apartT.symm {s t : Thing} (h : apartT s t) : apartT t s := fun k hk hs => h k hs hk
theorem Live.perm {w : World} {base : Nat} {L M : List Thing} (h : Live w base L) (hp : L.Perm M) : Live w base M :=
  ⟨fun t ht => h.all t (hp.mem_iff.2 ht), (hp.pairwise_iff (fun h => apartT.symm h)).1 h.apart⟩
theorem Live.sub {w : World} {base : Nat} {L M : List Thing} (h : Live w base L) (hs : M.Sublist L) : Live w base M :=
  ⟨fun t ht => h.all t (hs.subset ht), h.apart.sublist hs⟩
theorem Live.drop {w : World} {base : Nat} {L M : List Thing} (h : Live w base (L ++ M)) : Live w base M := h.sub (List.sublist_append_right _ _)
/-- The frame: what the call touched is S; it becomes S'; the rest R stays. -/
theorem Live.frame {w w' : World} {base : Nat} {S R S' : List Thing} (h : Live w base (S ++ R)) (hk : Keeps (foots S) w w') (hS : ∀ t ∈ S', t.P w') (hF : From w (foots S) (foots S')) (hA : S'.Pairwise apartT) (hb : base ≤ w.heap.size) : Live w' base (S' ++ R) := by
  have hap := List.pairwise_append.1 h.apart
  have hRS : ∀ t ∈ R, ∀ k ∈ t.F, k ∉ foots S := fun t ht k hk hs => by
    obtain ⟨s, hs, hks⟩ := mem_foots.1 hs
    exact hap.2.2 s hs t ht k hks hk
  have hlt : ∀ t ∈ R, ∀ k ∈ t.F, k < w.heap.size := fun t ht k hk => t.lt w (h.all t (List.mem_append_right _ ht)).1 k hk
  refine ⟨fun t ht => ?_, ?_⟩
  · rcases List.mem_append.1 ht with ht | ht
    · refine ⟨hS t ht, fun k hk' => ?_⟩
      rcases hF k (mem_foots.2 ⟨t, ht, hk'⟩) with h1 | h1
      · obtain ⟨s, hs, hks⟩ := mem_foots.1 h1
        exact (h.all s (List.mem_append_left _ hs)).2 k hks
      · omega
    · have h1 := h.all t (List.mem_append_right _ ht)
      exact ⟨t.stays w w' h1.1 (fun k hk' => hk.block k (hlt t ht k hk') (hRS t ht k hk')), h1.2⟩
  · refine List.pairwise_append.2 ⟨hA, hap.2.1, fun s hs t ht k hks hkt => ?_⟩
    rcases hF k (mem_foots.2 ⟨s, hs, hks⟩) with h1 | h1
    · exact hRS t ht k hkt h1
    · have := hlt t ht k hkt
      omega
theorem Live.frame_below {w w' : World} {base : Nat} {S R : List Thing} (h : Live w base (S ++ R)) (hk : Keeps (foots S) w w') (hb : base ≤ w.heap.size) : Below base w w' :=
  hk.below hb (fun k hk' => by
    obtain ⟨s, hs, hks⟩ := mem_foots.1 hk'
    exact (h.all s (List.mem_append_left _ hs)).2 k hks)
/-- At a law's walk: the frame. -/
theorem At.frame {w0 w w' : World} {S R S' L : List Thing} (h : At w0 w L) (hp : L.Perm (S ++ R)) (hk : Keeps (foots S) w w') (hS : ∀ t ∈ S', t.P w') (hF : From w (foots S) (foots S')) (hA : S'.Pairwise apartT) : At w0 w' (S' ++ R) :=
  have h2 := h.live.perm hp
  ⟨h.below.trans (h2.frame_below hk h.le), h2.frame hk hS hF hA h.le⟩
theorem At.perm {w0 w : World} {L M : List Thing} (h : At w0 w L) (hp : L.Perm M) : At w0 w M := ⟨h.below, h.live.perm hp⟩
theorem At.sub {w0 w : World} {L M : List Thing} (h : At w0 w L) (hs : M.Sublist L) : At w0 w M := ⟨h.below, h.live.sub hs⟩

def rowThing (b : Nat) (k : Bk) : Thing := ⟨[b], fun w => BkAt w b k, fun _ _ h hk => h.keep (hk b (by simp)), fun _ h i hi => by rw [List.mem_singleton.1 hi]; exact lt_of_heap h⟩
def qThing (t : TypeId) (size : Nat) (v : Value) (n : Nat) (xs : List Value) : Thing :=
  ⟨v.ownBlock.toList, fun w => QOwn w t size v n xs, fun _ _ h hk => h.keep (fun i hi => hk i (by simpa using hi)), fun _ h i hi => h.lt i (by simpa using hi)⟩
theorem Grp.ok.keep {w w' : World} {g : Grp} (h : g.ok w) (hk : ∀ i ∈ g.foot, w'.heap[i]? = w.heap[i]?) : g.ok w' := by
  obtain ⟨m0, m1, m2, b0, b1, b2, h0, h1, h2⟩ := h
  refine ⟨m0, m1, m2, b0, b1, b2, ownsRow_keep h0 (fun i hi => hk i ?_), ownsRow_keep h1 (fun i hi => hk i ?_), ownsRow_keep h2 (fun i hi => hk i ?_)⟩ <;> simp [Grp.foot, hi]
theorem Grp.ok.lt {w : World} {g : Grp} (h : g.ok w) : ∀ i ∈ g.foot, i < w.heap.size := by
  obtain ⟨m0, m1, m2, b0, b1, b2, h0, h1, h2⟩ := h
  intro i hi
  simp only [Grp.foot, List.mem_append, Option.mem_toList] at hi
  rcases hi with (hi | hi) | hi
  · exact (World.ownsRow.lt h0 i hi).2
  · exact (World.ownsRow.lt h1 i hi).2
  · exact (World.ownsRow.lt h2 i hi).2
def grpThing (g : Grp) : Thing := ⟨g.foot, fun w => g.ok w ∧ g.isS, fun _ _ h hk => ⟨h.1.keep hk, h.2⟩, fun _ h => h.1.lt⟩

/-- An untouched list and its copy. -/
structure Idle where
  v : Value
  u : Value
  l : List UInt8
def Idle.things (c : Idle) : List Thing := [bytesThing c.v c.l, bytesThing c.u c.l]
/-- The Book's things, the row's struct at their head. -/
def bookL (b : Nat) (k : Bk) (gs : List Grp) (cs : List Idle) : List Thing :=
  rowThing b k :: qThing 104 4 k.gv gs.length (gs.flatMap Grp.cells) :: qThing 29 1 k.cv cs.length (cs.map Idle.v) :: qThing 29 1 k.wv cs.length (cs.map Idle.u) :: (gs.map grpThing ++ cs.flatMap Idle.things)
structure BookOk (gs : List Grp) (cs : List Idle) : Prop where
  gl : gs.length ≤ 64
  cl : cs.length ≤ 65
  ll : ∀ c ∈ cs, c.l.length ≤ 16777216
/-- The Book's other cells. -/
def Bk.rest' (k k' : Bk) : Prop := k'.dsv = k.dsv ∧ k'.rsv = k.rsv ∧ k'.pages = k.pages
theorem Bk.rest'.refl (k : Bk) : k.rest' k := ⟨rfl, rfl, rfl⟩
theorem Bk.rest'.trans {k k1 k2 : Bk} (h : k.rest' k1) (h' : k1.rest' k2) : k.rest' k2 := ⟨h'.1.trans h.1, h'.2.1.trans h.2.1, h'.2.2.trans h.2.2⟩

/-- How often a thing stands in a list: lists that hold each thing as often are alike but for their order. -/
noncomputable def tcnt (t : Thing) (L : List Thing) : Nat := @List.count Thing (@instBEqOfDecidableEq _ (Classical.typeDecidableEq Thing)) t L
noncomputable def tone (t x : Thing) : Nat := tcnt t [x]
theorem tcnt_nil (t : Thing) : tcnt t [] = 0 := rfl
theorem tcnt_cons (t x : Thing) (L : List Thing) : tcnt t (x :: L) = tone t x + tcnt t L := by
  unfold tone tcnt
  letI := Classical.typeDecidableEq Thing
  rw [show x :: L = [x] ++ L from rfl, List.count_append]
theorem tcnt_append (t : Thing) (L M : List Thing) : tcnt t (L ++ M) = tcnt t L + tcnt t M := by
  unfold tcnt
  letI := Classical.typeDecidableEq Thing
  rw [List.count_append]
theorem perm_of {L M : List Thing} (h : ∀ t, tcnt t L = tcnt t M) : L.Perm M := by
  letI := Classical.typeDecidableEq Thing
  exact List.perm_iff_count.2 h
theorem At.get {w0 w : World} {L : List Thing} (h : At w0 w L) {t : Thing} (ht : t ∈ L) : t.P w := (h.live.all t ht).1
theorem At.apart {w0 w : World} {s t : Thing} {L : List Thing} (h : At w0 w (s :: t :: L)) : apartT s t := (List.pairwise_cons.1 h.live.apart).1 t (by simp)
end Go.Proofs.Ytbjffjplpnnhoaa

/-
  The law's own small functions: copied, roomy, intact (layer 4).
-/
namespace Go.Proofs.Ytbjffjplpnnhoaa
set_option linter.unusedVariables false
set_option linter.unusedSimpArgs false
open Go.RowKit

theorem lCopied_any {w : World} {v : Value} {l : List UInt8} (hv : BytesAt w v l) (hl : l.length ≤ 16777216) :
    Calls Try.prog 41 #[v] w fun e w' => ∃ a c, e = .returned (.slice a l.length c) ∧ OwnB w' (.slice a l.length c) l ∧ (∀ k, (Value.slice a l.length c).ownBlock = some k → w.heap.size ≤ k) ∧ Keeps [] w w' := by
  obtain ⟨a, c, rfl, hc, hm⟩ := hv.form
  unfold maxLen at hm
  obtain ⟨v', w', hr, hown, hg⟩ := run_append_bytes (base := w.heap.size) (v := .slice none 0 0) (n := 0) (xs := []) (World.ownsRow_nil _ _ _ _) hv (by omega) (Nat.le_refl _) 29
  rw [Nat.zero_add, List.nil_append] at hown
  obtain ⟨a2, c2, rfl⟩ := owns_slice' hown
  have hk : Keeps [] w w' := (Keeps.refl _ _).grown hg (fun j hj => by simp [Value.ownBlock] at hj)
  have hap := run_builtin_append hr
  have HAP := Lib.hid hap
  have HO := Lib.hid hown
  have HK := Lib.hid hk
  clear hap hr hown hg hk hv
  go_enter Try.func41, Try.ntmps41
  go_wp2_with (refine wl_builtin rfl .append #[.tmp 4, .tmp 5] #[29, 29] rfl ?_; simp only [List.map_toArray, List.map_cons, List.map_nil]; refine ⟨_, _, HAP.out, ?_⟩; try simp only [Act.put, List.setIfInBounds_toArray, List.set_cons_zero, List.set_cons_succ, List.getElem_toArray, List.getElem_cons_zero, List.getElem_cons_succ])
  go_ret
  exact ⟨a2, c2, rfl, ownsRow_base HO.out, fun k hk => (World.ownsRow.lt HO.out k hk).1, HK.out⟩

theorem make_bytes2 (w : World) (n : Nat) (hn : n ≤ 33554432) :
    (Instr.makeSlice 29 (.int .i64 n) (.int .i64 n)).run Try.prog w = .ok (.slice (some ⟨w.heap.size, 0, none⟩) n n) (w.alloc (.cells ((List.replicate n (0 : UInt8)).map B).toArray 5 (0, 0))) := by
  obtain ⟨i0, hi, hz0, hz1, hz2⟩ := info_parts info_u8
  have hmk := run_make (P := Try.prog) w 29 5 i0 _ Try.underlying29 hi hz0 .i64 .i64 (n : Int) (n : Int) (by omega) (by omega) (by rw [hz2]; omega) (by omega)
  have hz : madeCells (Value.int .u8 0).cells (Int.toNat (n : Int) * i0.size) = (((List.replicate n (0 : UInt8))).map B).toArray := by
    rw [hz1, show (Value.int .u8 0).cells = Array.replicate 1 (.int .u8 0) from rfl, madeCells_same 1 _ _ (by omega)]
    simp only [List.map_replicate, Nat.mul_one, Int.toNat_natCast]
    rfl
  rw [hz] at hmk
  simpa only [Int.toNat_natCast] using hmk
/-- A block of bytes, whole, as a slice of one's own. -/
theorem own_whole {w : World} {g : Nat} {l : List UInt8} (h : w.heap[g]? = some (.cells (l.map B).toArray 5 (0, 0))) {n : Nat} (hn : n = l.length) (hm : n ≤ 9223372036854775807) : OwnB w (.slice (some ⟨g, 0, none⟩) n n) l :=
  ⟨by simp, .inr ⟨g, n, (l.map B).toArray, by rw [hn], Nat.zero_le _, h, by omega, by simp only [maxLen]; omega, by simp [hn], by simp; exact List.take_of_length_le (by simp)⟩⟩
/-- copy to the head of a new block. -/
theorem copy_head {w : World} {g n c : Nat} {v : Value} {l r : List UInt8} (hp : w.heap[g]? = some (.cells ((List.replicate l.length (0 : UInt8) ++ r).map B).toArray 5 (0, 0))) (hv : BytesAt w v l) (hn : l.length ≤ n) (ty : TypeId) :
    ∃ w', (Builtin.copy_ #[29, 29] ty #[.slice (some ⟨g, 0, none⟩) n c, v]).run Try.prog w = .ok (.int .i64 l.length) w' ∧ w'.heap[g]? = some (.cells ((l ++ r).map B).toArray 5 (0, 0)) ∧ Keeps [g] w w' := by
  rcases Nat.eq_zero_or_pos l.length with h0 | h0
  · obtain rfl : l = [] := List.eq_nil_of_length_eq_zero h0
    obtain ⟨a, c2, rfl, _, _⟩ := hv.form
    refine ⟨w, ?_, by simpa using hp, Keeps.refl _ _⟩
    have := run_copy_none (P := Try.prog) w 29 29 ty 5 (some ⟨g, 0, none⟩) a n c 0 c2 Try.underlying29 (by kernel_rfl) (by simp)
    exact this
  · obtain ⟨a, c2, rfl, _, _⟩ := hv.form
    obtain ⟨go, so, rfl, hgo, hr⟩ := hv.at h0
    have := run_copy_into (o := 0) (m := n) (c1 := c) (c2 := c2) hp hr rfl hn (by simp) ty
    refine ⟨_, this, ?_, ?_⟩
    · have e : setAt (List.replicate l.length (0 : UInt8) ++ r) 0 l = l ++ r := by
        unfold setAt
        simp
      rw [e]
      exact setRow_heap _ _ _ _ _ _ hp
    · exact ⟨rfl, rfl, rfl, by simp, fun k _ hn => setRow_other _ _ _ _ (by simpa using hn)⟩

def roomed (l : List UInt8) : List UInt8 := l ++ List.replicate 80 165
theorem roomed_length (l : List UInt8) : (roomed l).length = l.length + 80 := by simp [roomed]
theorem roomed_take (l : List UInt8) : (roomed l).take l.length = l := by simp [roomed]
def roomAt (l : List UInt8) (k : Nat) : List UInt8 := l ++ (List.replicate (k - l.length) 165 ++ List.replicate (l.length + 80 - k) 0)
theorem roomAt_length (l : List UInt8) {k : Nat} (h1 : l.length ≤ k) (h2 : k ≤ l.length + 80) : (roomAt l k).length = l.length + 80 := by simp [roomAt]; omega
theorem roomAt_set (l : List UInt8) {k : Nat} (h1 : l.length ≤ k) (h2 : k < l.length + 80) : (roomAt l k).set k 165 = roomAt l (k + 1) := by
  unfold roomAt
  rw [List.set_append_right _ _ h1, List.set_append_right _ _ (by simp)]
  have e1 : l.length + 80 - k = (l.length + 80 - (k + 1)) + 1 := by omega
  have e2 : k + 1 - l.length = (k - l.length) + 1 := by omega
  rw [e1, e2, List.replicate_succ (n := l.length + 80 - (k + 1)), List.length_replicate, Nat.sub_self, List.set_cons_zero, List.replicate_succ' (n := k - l.length), List.append_assoc]
  rfl
set_option maxRecDepth 100000 in
theorem lRoomy_any {w : World} {v : Value} {l : List UInt8} (hv : BytesAt w v l) (hl : l.length ≤ 16777216) :
    Calls Try.prog 43 #[v] w fun e w' => ∃ g N, N = l.length + 80 ∧ e = .returned (.slice (some ⟨g, 0, none⟩) N N) ∧ w.heap.size ≤ g ∧ OwnB w' (.slice (some ⟨g, 0, none⟩) N N) (roomed l) ∧ Keeps [] w w' := by
  obtain ⟨a, c, rfl, hc, hm⟩ := hv.form
  unfold maxLen at hm
  obtain ⟨n, hn⟩ : ∃ n, n = l.length := ⟨_, rfl⟩
  obtain ⟨N, hN⟩ : ∃ N, N = n + 80 := ⟨_, rfl⟩
  obtain ⟨g, hg⟩ : ∃ g, g = w.heap.size := ⟨_, rfl⟩
  have hmk := make_bytes2 w N (by omega)
  obtain ⟨w1, hw1⟩ : ∃ w1, w1 = w.alloc (.cells ((List.replicate N (0 : UInt8)).map B).toArray 5 (0, 0)) := ⟨_, rfl⟩
  have hk1 : Keeps [] w w1 := by rw [hw1]; exact (Keeps.refl _ _).alloc _
  have hb1 : w1.heap[g]? = some (.cells ((List.replicate l.length (0 : UInt8) ++ List.replicate 80 0).map B).toArray 5 (0, 0)) := by
    rw [hw1, List.replicate_append_replicate, ← hn, ← hN]
    exact heap_new_at hg
  have hv1 : BytesAt w1 (.slice a l.length c) l := hv.keeps hk1 (by simp)
  obtain ⟨w2, hr2, hb2, hk2⟩ := copy_head (n := N) (c := N) hb1 hv1 (by omega) 3
  have hO2 : OwnB w2 (.slice (some ⟨g, 0, none⟩) N N) (roomAt l n) := own_whole (by rw [show roomAt l n = l ++ List.replicate 80 0 from by simp [roomAt, hn]]; exact hb2) (by rw [roomAt_length l (by omega) (by omega)]; omega) (by omega)
  have hK2 : Keeps [] w w2 := hk1.trans hk2 (by simp; omega)
  rw [← hg, ← hw1, show ((N : Nat) : Int) = (n : Int) + 80 from by omega] at hmk
  rw [← hn] at hr2 ⊢
  have HMK := Lib.hid hmk
  have HCP := Lib.hid (run_builtin_copy hr2)
  have HR2 := Lib.hid hr2
  have HO2 := Lib.hid hO2
  have HK2 := Lib.hid hK2
  have HG := Lib.hid (show w.heap.size ≤ g by omega)
  have HN := Lib.hid hN
  have HL := Lib.hid hn
  have n0 : n ≤ 16777216 := by omega
  have n1 : N ≤ 16777296 := by omega
  have e80 : IntKind.i64.wrap ((n : Int) + 80) = (n : Int) + 80 := IntWalk.i64_in _ (by omega)
  clear hmk hr2 hO2 hK2 hg hN hn hw1 hk1 hb1 hv1 hb2 hk2 hv hc hl
  go_enter Try.func43, Try.ntmps43
  go_wp2_with (first | (refine wl_makeSlice rfl 29 (.tmp 7) (.tmp 7) rfl ?_; refine ⟨_, _, HMK.out, ?_⟩; try simp only [Act.put, List.setIfInBounds_toArray, List.set_cons_zero, List.set_cons_succ, List.getElem_toArray, List.getElem_cons_zero, List.getElem_cons_succ]) | (refine wl_builtin rfl .copy #[.tmp 9, .tmp 10] #[29, 29] rfl ?_; refine ⟨_, _, HCP.out, ?_⟩; try simp only [Act.put, List.setIfInBounds_toArray, List.set_cons_zero, List.set_cons_succ, List.getElem_toArray, List.getElem_cons_zero, List.getElem_cons_succ]))
  rw [HR2.out]
  go_wp2_with fail
  clear HMK HCP HR2
  go_loopw [4] (fun i wr => ∃ k : Nat, n ≤ k ∧ k ≤ N ∧ i = .int .i64 k ∧ OwnB wr (.slice (some ⟨g, 0, none⟩) N N) (roomAt l k) ∧ Keeps [] w wr) (fun i _ => N - (intOf i).toNat)
  case atStart => exact ⟨n, Nat.le_refl _, by have := HN.out; omega, rfl, HO2.out, HK2.out⟩
  case round =>
    obtain ⟨k, hk1, hk2, rfl, hO, hkr⟩ := hrel
    have k0 : (0 : Int) ≤ (k : Int) := by omega
    by_cases hlt : k < N
    · have hll : (roomAt l k).length = N := by rw [roomAt_length l (by rw [← HL.out]; exact hk1) (by rw [← HL.out, ← HN.out]; exact hk2), ← HL.out, ← HN.out]
      have hkl : k < (roomAt l k).length := by omega
      have f1 := hO.cell k hkl
      have f2 := hO.free k
      obtain ⟨old, hold⟩ : ∃ old, old = B (roomAt l k)[k] := ⟨_, rfl⟩
      rw [← hold] at f1
      have hset := hO.set k hkl 165
      rw [roomAt_set l (by rw [← HL.out]; exact hk1) (by rw [← HL.out, ← HN.out]; exact hlt)] at hset
      have x1 : (k : Int) < (N : Int) := by omega
      have hset' : OwnB (wr.setCell ⟨g, k, none⟩ (.int .u8 165)) (.slice (some ⟨g, 0, none⟩) N N) (roomAt l (k + 1)) := hset
      have HSE := Lib.hid hset'
      have HKR := Lib.hid (hkr.setCell (p := ⟨g, k, none⟩) (.inr HG.out) (.int .u8 165))
      clear hset hset' hold hO hkr hll hkl
      go_wp2_with fail
      go_roundw
      case rel => exact ⟨k + 1, by omega, by omega, by go_num, HSE.out, HKR.out⟩
      case measure => simp [intOf]; omega
    · have e : k = N := by omega
      subst e
      have hO' : OwnB wr (.slice (some ⟨g, 0, none⟩) k k) (roomed l) := by
        have e2 : roomAt l k = roomed l := by
          unfold roomAt roomed
          rw [HN.out, HL.out, show l.length + 80 - l.length = 80 from by omega, show l.length + 80 - (l.length + 80) = 0 from by omega]
          simp
        rw [← e2]
        exact hO
      have HO := Lib.hid hO'
      have HKR := Lib.hid hkr
      clear hO hO' hkr
      go_wp2_with fail
      go_ret
      exact ⟨g, k, HN.out, rfl, HG.out, HO.out, HKR.out⟩
set_option maxRecDepth 100000 in
theorem lIntact_any {w : World} {v1 v2 : Value} {l : List UInt8} (h1 : OwnB w v1 (roomed l)) (h2 : BytesAt w v2 l) (hl : l.length ≤ 16777216) :
    Calls Try.prog 45 #[v1, v2] w fun e w' => e = .returned (.bool true) ∧ Keeps [] w w' := by
  have h1' := ownB_bytes h1
  obtain ⟨a1, c1, rfl, hc1, hm1⟩ := h1'.form
  obtain ⟨a2, c2, rfl, hc2, hm2⟩ := h2.form
  obtain ⟨g1, o1, rfl, hg1, hr1⟩ := h1'.at (by rw [roomed_length]; omega)
  rw [roomed_length]
  obtain ⟨n, hn⟩ : ∃ n, n = l.length := ⟨_, rfl⟩
  obtain ⟨N, hN⟩ : ∃ N, N = n + 80 := ⟨_, rfl⟩
  have hb : ((N : Int) != (n : Int) + 80) = false := by simp; omega
  have HR1 := Lib.hid hr1
  have HR2 : Hid (∀ k (h : k < l.length), ∃ g o, a2 = some ⟨g, o, none⟩ ∧ g < w.heap.size ∧ w.cell? ⟨g, o + k, none⟩ = some (.int .u8 l[k].toNat)) := Lib.hid (fun k h => by
    obtain ⟨g2, o2, rfl, hg2, hr2⟩ := h2.at (by omega)
    exact ⟨g2, o2, rfl, hg2, hr2 k _ (by simp [h, B])⟩)
  rw [← hn, ← hN]
  have HN := Lib.hid hN
  have HL := Lib.hid hn
  have n0 : n ≤ 16777216 := by omega
  have n1 : N ≤ 16777296 := by omega
  have e80 : IntKind.i64.wrap ((n : Int) + 80) = (n : Int) + 80 := IntWalk.i64_in _ (by omega)
  clear hN hn hr1 h1 h1' h2 hc1 hc2 hm1 hm2 hl
  go_enter Try.func45, Try.ntmps45
  go_wp2_with fail
  go_loopw [5] (fun i wr => ∃ k : Nat, k ≤ N ∧ i = .int .i64 k ∧ Keeps [] w wr) (fun i _ => N - (intOf i).toNat)
  case atStart => exact ⟨0, Nat.zero_le _, rfl, Keeps.refl _ _⟩
  case round =>
    obtain ⟨k, hk, rfl, hkr⟩ := hrel
    have k0 : (0 : Int) ≤ (k : Int) := by omega
    have HKR := Lib.hid hkr
    by_cases hlt : k < n
    · have hlt' : k < l.length := by rw [← HL.out]; exact hlt
      obtain ⟨g2, o2, rfl, hg2, q2⟩ := HR2.out k hlt'
      have q1 := HR1.out k (B l[k]) (by simp [roomed, hlt', List.getElem?_append_left])
      obtain ⟨x, hx⟩ : ∃ x, x = l[k] := ⟨_, rfl⟩
      have e1 : wr.cell? ⟨g1, o1 + k, none⟩ = some (.int .u8 x.toNat) := by
        rw [World.cell?_of_block (w := w) (w' := wr) (a := ⟨g1, o1 + k, none⟩) (hkr.block g1 hg1 (by simp)), hx]
        exact q1
      have e2 : wr.cell? ⟨g2, o2 + k, none⟩ = some (.int .u8 x.toNat) := by
        rw [World.cell?_of_block (w := w) (w' := wr) (a := ⟨g2, o2 + k, none⟩) (hkr.block g2 hg2 (by simp)), hx]
        exact q2
      have t1 : ((x.toNat : Int) != x.toNat) = false := by simp
      have b1 : (k : Int) < (n : Int) := by omega
      have b4 : ¬ (n : Int) ≤ (k : Int) := by omega
      have b5 : ¬ n ≤ k := by omega
      have b2 : (k : Int) < (N : Int) := by have := HN.out; omega
      have b3 : k < N := by omega
      clear hx q1 q2 hkr
      go_wp2_with fail
      go_quiet (fail)
      go_wp2_with fail
      go_roundw
      case rel => exact ⟨k + 1, by omega, by go_num, HKR.out.drewN _⟩
      case measure => simp [intOf]; omega
    · by_cases hlt2 : k < N
      · have q1 := HR1.out k (B 165) (by
          unfold roomed
          rw [List.map_append, List.getElem?_append_right (by rw [List.length_map, ← HL.out]; omega), List.getElem?_map, List.getElem?_replicate, if_pos (by rw [List.length_map, ← HL.out]; have := HN.out; omega)]
          rfl)
        have e1 : wr.cell? ⟨g1, o1 + k, none⟩ = some (.int .u8 165) := by
          rw [World.cell?_of_block (w := w) (w' := wr) (a := ⟨g1, o1 + k, none⟩) (hkr.block g1 hg1 (by simp))]
          exact q1
        have b1 : ¬ (k : Int) < (n : Int) := by omega
        have b2 : (k : Int) < (N : Int) := by omega
        clear q1 hkr
        go_wp2_with fail
        go_quiet (fail)
        go_wp2_with fail
        go_roundw
        case rel => exact ⟨k + 1, by omega, by go_num, HKR.out.drewN _⟩
        case measure => simp [intOf]; omega
      · have b2 : ¬ (k : Int) < (N : Int) := by omega
        clear hkr
        go_wp2_with fail
        go_ret
        exact ⟨rfl, HKR.out⟩
end Go.Proofs.Ytbjffjplpnnhoaa
