/-
  The disk (package disk) as a value, where it lies in memory, and small laws on that: no walk here.
-/
import Derived.Test.YtbjffjplpnnhoaaOwn
namespace Go.Proofs.Ytbjffjplpnnhoaa
set_option linter.unusedVariables false
set_option linter.unusedSimpArgs false
open Go.RowKit

/-- A disk: its counts, the synced bytes of its n pages, its open writes, what it is armed with, its power, its epoch. -/
structure D where
  reads : Int
  writes : Int
  syncs : Int
  n : Nat
  img : List UInt8
  q : List (Nat × List UInt8)
  armed : Int
  dead : Bool
  epoch : Int

/-- The cells of the open writes. -/
def qCells (q : List (Nat × List UInt8)) : List Value := q.flatMap fun p => .int .i64 p.1 :: p.2.map B
/-- By page: the place of its last open write. -/
def newest (q : List (Nat × List UInt8)) : Int → Option Int := (q.zipIdx).foldl (fun f p => fun j => if j = (p.1.1 : Int) then some (p.2 : Int) else f j) (fun _ => none)

theorem newest_snoc (q : List (Nat × List UInt8)) (page : Nat) (data : List UInt8) : newest (q ++ [(page, data)]) = fun j => if j = (page : Int) then some (q.length : Int) else newest q j := by
  simp [newest, List.zipIdx_append]
theorem qCells_snoc (q : List (Nat × List UInt8)) (page : Nat) (data : List UInt8) : qCells (q ++ [(page, data)]) = qCells q ++ (.int .i64 page :: data.map B) := by simp [qCells]

def D.ok (d : D) : Prop := 3 ≤ d.n ∧ d.n ≤ 4096 ∧ d.img.length = 256 * d.n ∧ (∀ p ∈ d.q, p.1 < d.n ∧ p.2.length = 256) ∧ 0 ≤ d.armed ∧ d.armed ≤ 9223372036854775807

def dCells (d : D) (bp : Nat) (qv : Value) (bm : Nat) : Array Value :=
  #[.int .i64 d.reads, .int .i64 d.writes, .int .i64 d.syncs, .int .i64 d.q.length, .slice (some ⟨bp, 0, none⟩) d.n d.n, qv, .map (some bm), .int .i64 d.armed, .bool d.dead, .int .i64 d.epoch]

/-- The parts of a disk at block b: its pages in bp, its open writes in qv, its map in bm. -/
structure DiskIn (w : World) (b : Nat) (d : D) (bp : Nat) (qv : Value) (bm : Nat) : Prop where
  ok : d.ok
  root : w.heap[b]? = some (.cells (dCells d bp qv bm) 64 (0, 0))
  pages : w.heap[bp]? = some (.cells (d.img.map B).toArray 84 (0, 0))
  queue : w.ownsRow 0 86 257 qv d.q.length (qCells d.q)
  map : IMap Try.prog w 3 bm d.q.length (newest d.q)

/-- A disk lies at block b, over the blocks F. -/
def DiskAt (w : World) (b : Nat) (d : D) (F : List Nat) : Prop := ∃ bp qv bm, DiskIn w b d bp qv bm ∧ F = b :: bp :: bm :: qv.ownBlock.toList

section
variable {w w' : World} {b : Nat} {d : D} {F : List Nat} {bp bm : Nat} {qv : Value}

theorem DiskIn.keep (h : DiskIn w b d bp qv bm) (hb : ∀ k ∈ b :: bp :: bm :: qv.ownBlock.toList, w'.heap[k]? = w.heap[k]?) : DiskIn w' b d bp qv bm :=
  ⟨h.ok, (hb b (by simp)).trans h.root, (hb bp (by simp)).trans h.pages, ownsRow_keep h.queue (fun k hk => hb k (by simp [hk])), h.map.keep (hb bm (by simp))⟩
theorem DiskIn.lt (h : DiskIn w b d bp qv bm) : ∀ k ∈ b :: bp :: bm :: qv.ownBlock.toList, k < w.heap.size := by
  intro k hk
  simp only [List.mem_cons, Option.mem_toList] at hk
  rcases hk with rfl | rfl | rfl | hk
  · exact lt_of_heap h.root
  · exact lt_of_heap h.pages
  · exact h.map.lt
  · exact (h.queue.lt k hk).2
theorem DiskAt.lt (h : DiskAt w b d F) : ∀ k ∈ F, k < w.heap.size := by obtain ⟨_, _, _, h, rfl⟩ := h; exact h.lt
theorem DiskAt.ok (h : DiskAt w b d F) : d.ok := by obtain ⟨_, _, _, h, rfl⟩ := h; exact h.ok
theorem DiskAt.keep (h : DiskAt w b d F) (hb : ∀ k ∈ F, w'.heap[k]? = w.heap[k]?) : DiskAt w' b d F := by
  obtain ⟨bp, qv, bm, h, rfl⟩ := h
  exact ⟨bp, qv, bm, h.keep hb, rfl⟩
theorem DiskAt.keeps {G : List Nat} (h : DiskAt w b d F) (hk : Keeps G w w') (hd : ∀ k ∈ F, k ∉ G) : DiskAt w' b d F :=
  h.keep fun k hk' => hk.block k (h.lt k hk') (hd k hk')

/-- The four blocks are not one another. -/
theorem DiskIn.apart (h : DiskIn w b d bp qv bm) : b ≠ bp ∧ b ≠ bm ∧ bp ≠ bm ∧ ∀ g, qv.ownBlock = some g → b ≠ g ∧ bp ≠ g ∧ bm ≠ g := by
  obtain ⟨es, clock, hm⟩ : ∃ es clock, w.heap[bm]? = some (.map es clock) := by obtain ⟨_, ⟨es, clock, h, _⟩, _⟩ := h.map; exact ⟨es, clock, h⟩
  refine ⟨?_, ?_, ?_, ?_⟩
  · rintro rfl; have := h.root.symm.trans h.pages; simp at this
  · rintro rfl; have := h.root.symm.trans hm; simp at this
  · rintro rfl; have := h.pages.symm.trans hm; simp at this
  · intro g hg
    rcases h.queue.2 with ⟨rfl, _⟩ | ⟨g', cap, cur, rfl, _, hgg, _⟩
    · simp [Value.ownBlock] at hg
    · simp only [Value.ownBlock, Option.some.injEq] at hg
      subst hg
      refine ⟨?_, ?_, ?_⟩
      · rintro rfl; have := h.root.symm.trans hgg; simp at this
      · rintro rfl; have := h.pages.symm.trans hgg; simp at this
      · rintro rfl; have := hm.symm.trans hgg; simp at this

theorem DiskIn.form (h : DiskIn w b d bp qv bm) : ∃ aq cq, qv = .slice aq d.q.length cq := by
  rcases h.queue.2 with ⟨rfl, h0⟩ | ⟨g, cap, cur, rfl, _⟩
  · exact ⟨none, 0, by rw [h0]⟩
  · exact ⟨_, _, rfl⟩

theorem DiskIn.qlen (h : DiskIn w b d bp qv bm) : d.q.length ≤ 9223372036854775807 := by
  rcases h.queue.2 with ⟨_, h0⟩ | ⟨g, cap, cur, _, _, _, h1, h2, _⟩
  · omega
  · simp only [maxLen] at h2; omega

theorem DiskIn.qcap {aq : Option Addr} {cq : Nat} (h : DiskIn w b d bp (.slice aq d.q.length cq) bm) : d.q.length ≤ cq ∧ cq ≤ 9223372036854775807 := by
  rcases h.queue.2 with ⟨hv, h0⟩ | ⟨g, cap, cur, hv, _, _, h1, h2, _⟩
  · injection hv with _ _ e; omega
  · injection hv with _ _ e
    simp only [maxLen] at h2; omega

/-- A new disk. -/
def D.new (n : Nat) : D := { reads := 0, writes := 0, syncs := 0, n, img := List.replicate (256 * n) 0, q := [], armed := 0, dead := false, epoch := 0 }
def zPage : Value := .agg (Array.replicate 256 (.int .u8 0))
theorem info_page : (Try.prog.info? 84).map (fun i => (i.zero, i.size, i.bytes)) = some (some zPage, 256, 256) := by kernel_rfl
theorem size_page : (Try.prog.info? 84).map (·.size) = some 256 := by kernel_rfl


/-- An act: it counts towards the loss of power. -/
def D.act (d : D) : D := if d.armed = 0 then d else { d with armed := d.armed - 1, dead := decide (d.armed = 1) }
def D.write (d : D) (page : Nat) (data : List UInt8) : D := D.act { d with q := d.q ++ [(page, data)], writes := wrap64 (d.writes + 1) }
/-- A write as a variable: its cells. -/
def wCells (page : Nat) (data : List UInt8) : Array Value := (.int .i64 page :: data.map B).toArray
/-- The zero of a write as the loaded program has it, with its page's number. -/
noncomputable def zWrite (page : Int) : Array Value := Try.zeroCells86.setIfInBounds 0 (.int .i64 page)
theorem zWrite_zero : Try.zeroCells86 = #[.int .i64 0] ++ Array.replicate 256 (.int .u8 0) := by kernel_rfl
theorem zWrite_size (page : Int) : (zWrite page).size = 257 := by rw [zWrite, zWrite_zero]; simp
theorem zWrite_list (page : Int) : (zWrite page).toList = .int .i64 page :: List.replicate 256 (.int .u8 0) := by
  rw [zWrite, zWrite_zero]
  simp only [Array.toList_setIfInBounds, Array.toList_append, Array.toList_replicate]
  rfl
theorem zWrite_ones (page : Int) : (zWrite page).all (·.oneCell') = true := by
  rw [Array.all_eq_true_iff_forall_mem]
  intro v hv
  have hv' : v ∈ (zWrite page).toList := by simpa using hv
  rw [zWrite_list] at hv'
  rcases List.mem_cons.1 hv' with rfl | hv'
  · rfl
  · rw [List.eq_of_mem_replicate hv']; rfl
theorem size_write : (Try.prog.info? 86).map (·.size) = some 257 := by kernel_rfl
theorem run_store_write (page : Int) (w : World) : (Instr.storeAt 86 (.pointer (some ⟨w.heap.size, 0, none⟩)) (.agg (Try.zeroCells86.setIfInBounds 0 (.int .i64 page)))).run Try.prog (w.alloc (.cells Try.zeroCells86 86)) = .ok () (w.alloc (.cells (zWrite page) 86)) :=
  run_storeAt_new w 86 Try.zeroCells86 (zWrite page) (by rw [size_write, zWrite_size]) (by rw [zWrite_size, zWrite_zero]; simp) (zWrite_ones page)
theorem write_cells (page : Nat) {data : List UInt8} (hl : data.length = 256) : ((zWrite page).toList.take 1 ++ data.map B ++ (zWrite page).toList.drop (1 + (data.map B).length)).toArray = wCells page data := by
  rw [zWrite_list, wCells, List.length_map, hl]
  generalize hL : List.replicate 256 (Value.int .u8 0) = L
  have : L.length = 256 := by rw [← hL, List.length_replicate]
  rw [List.drop_of_length_le (by simp [this])]
  simp
theorem info_write : (Try.prog.info? 86).map (fun i => (i.zero, i.size, i.bytes)) = some (some (.agg Try.zeroCells86), 257, 264) := by kernel_rfl
theorem cells_zero_write : (Value.agg Try.zeroCells86).cells.size = 257 := Try.zeroCells86_size
attribute [irreducible] zWrite zPage

/-- The cells of the struct. -/
theorem DiskIn.cells (h : DiskIn w b d bp qv bm) :
    w.cell? ⟨b, 0, none⟩ = some (.int .i64 d.reads) ∧ w.cell? ⟨b, 1, none⟩ = some (.int .i64 d.writes) ∧ w.cell? ⟨b, 2, none⟩ = some (.int .i64 d.syncs) ∧ w.cell? ⟨b, 3, none⟩ = some (.int .i64 d.q.length) ∧
    w.cell? ⟨b, 4, none⟩ = some (.slice (some ⟨bp, 0, none⟩) d.n d.n) ∧ w.cell? ⟨b, 5, none⟩ = some qv ∧ w.cell? ⟨b, 6, none⟩ = some (.map (some bm)) ∧ w.cell? ⟨b, 7, none⟩ = some (.int .i64 d.armed) ∧
    w.cell? ⟨b, 8, none⟩ = some (.bool d.dead) ∧ w.cell? ⟨b, 9, none⟩ = some (.int .i64 d.epoch) := by
  refine ⟨?_, ?_, ?_, ?_, ?_, ?_, ?_, ?_, ?_, ?_⟩ <;> (rw [cell_of_row w b _ _ _ _ h.root]; rfl)
theorem DiskIn.free (h : DiskIn w b d bp qv bm) (j : Nat) : w.frozen? ⟨b, j, none⟩ = false := frozen_of_row w b j _ _ h.root
end


section
variable {w w' : World} {b : Nat} {d : D} {bp bm : Nat} {qv : Value}
/-- A store into the struct's own cell. -/
theorem root_set {cs : Array Value} (h : w.heap[b]? = some (.cells cs 64 (0, 0))) (j : Nat) (v : Value) : (w.setCell ⟨b, j, none⟩ v).heap[b]? = some (.cells (cs.setIfInBounds j v) 64 (0, 0)) := heap_setCell_same w b j cs _ v h

/-- The act at the end of Write and at the beginning of Sync, of a disk whose power is on. -/
theorem act_close (h : DiskIn w b d bp qv bm) (hd : d.dead = false) (hw : w' = if d.armed = 0 then w else (w.setCell ⟨b, 7, none⟩ (.int .i64 (d.armed - 1))).setCell ⟨b, 8, none⟩ (.bool (decide (d.armed = 1)))) :
    DiskIn w' b d.act bp qv bm ∧ Keeps [b] w w' := by
  by_cases h0 : d.armed = 0
  · rw [if_pos h0] at hw
    subst hw
    exact ⟨by simpa [D.act, h0] using h, Keeps.refl _ _⟩
  · rw [if_neg h0] at hw
    subst hw
    have hk : Keeps [b] w ((w.setCell ⟨b, 7, none⟩ (.int .i64 (d.armed - 1))).setCell ⟨b, 8, none⟩ (.bool (decide (d.armed = 1)))) := ((Keeps.refl _ _).setCell (.inl (by simp)) _).setCell (.inl (by simp)) _
    have hok := h.ok
    obtain ⟨a1, a2, a3, a4⟩ := h.apart
    have e : d.act = { d with armed := d.armed - 1, dead := decide (d.armed = 1) } := by simp [D.act, h0]
    rw [e]
    refine ⟨⟨?_, ?_, ?_, ?_, ?_⟩, hk⟩
    · obtain ⟨o1, o2, o3, o4, o5, o6⟩ := hok
      exact ⟨o1, o2, o3, o4, by simp only; omega, by simp only; omega⟩
    · exact root_set (root_set h.root 7 _) 8 _
    · exact (hk.block bp (lt_of_heap h.pages) (by simpa using Ne.symm a1)).trans h.pages
    · exact ownsRow_keep h.queue (fun k hq => hk.block k (h.queue.lt k hq).2 (by simpa using Ne.symm (a4 k hq).1))
    · exact h.map.keep (hk.block bm h.map.lt (by simpa using Ne.symm a2))

theorem D.act_q (d : D) : d.act.q = d.q := by unfold D.act; split <;> rfl
theorem D.act_n (d : D) : d.act.n = d.n := by unfold D.act; split <;> rfl
theorem D.act_img (d : D) : d.act.img = d.img := by unfold D.act; split <;> rfl
theorem D.act_reads (d : D) : d.act.reads = d.reads := by unfold D.act; split <;> rfl
theorem D.act_writes (d : D) : d.act.writes = d.writes := by unfold D.act; split <;> rfl
theorem D.act_syncs (d : D) : d.act.syncs = d.syncs := by unfold D.act; split <;> rfl
theorem D.act_epoch (d : D) : d.act.epoch = d.epoch := by unfold D.act; split <;> rfl

/-- One cell of the struct is written. -/
theorem DiskIn.setc (h : DiskIn w b d bp qv bm) (d' : D) (j : Nat) (v : Value) (himg : d'.img = d.img) (hq : d'.q = d.q) (ok : d'.ok) (hc : dCells d' bp qv bm = (dCells d bp qv bm).setIfInBounds j v) :
    DiskIn (w.setCell ⟨b, j, none⟩ v) b d' bp qv bm := by
  have hk : Keeps [b] w (w.setCell ⟨b, j, none⟩ v) := (Keeps.refl _ _).setCell (.inl (by simp)) _
  obtain ⟨a1, a2, a3, a4⟩ := h.apart
  refine ⟨ok, ?_, ?_, ?_, ?_⟩
  · rw [hc]; exact root_set h.root j v
  · rw [himg]; exact (hk.block bp (lt_of_heap h.pages) (by simpa using Ne.symm a1)).trans h.pages
  · rw [hq]; exact ownsRow_keep h.queue (fun k hq => hk.block k (h.queue.lt k hq).2 (by simpa using Ne.symm (a4 k hq).1))
  · rw [hq]; exact h.map.keep (hk.block bm h.map.lt (by simpa using Ne.symm a2))
theorem DiskIn.keeps {G : List Nat} (h : DiskIn w b d bp qv bm) (hk : Keeps G w w') (hd : ∀ k ∈ b :: bp :: bm :: qv.ownBlock.toList, k ∉ G) : DiskIn w' b d bp qv bm :=
  h.keep fun k hk' => hk.block k (h.lt k hk') (hd k hk')

/-- Behind the stores of Write. -/
theorem write_close {d1 : D} {qv' : Value} (hok : d1.ok) (hroot : w.heap[b]? = some (.cells (dCells d bp qv bm) 64 (0, 0))) (hpg : w.heap[bp]? = some (.cells (d.img.map B).toArray 84 (0, 0)))
    (hq : w.ownsRow 0 86 257 qv' d1.q.length (qCells d1.q)) (hm : IMap Try.prog w 3 bm d1.q.length (newest d1.q)) (hbp : b ≠ bp) (hbm : b ≠ bm) (hbq : qv'.ownBlock ≠ some b) (n1 n3 : Int)
    (he : d1 = { d with q := d1.q, writes := n1 }) (h3 : n3 = d1.q.length) :
    DiskIn (((w.setCell ⟨b, 5, none⟩ qv').setCell ⟨b, 1, none⟩ (.int .i64 n1)).setCell ⟨b, 3, none⟩ (.int .i64 n3)) b d1 bp qv' bm := by
  have hk : Keeps [b] w (((w.setCell ⟨b, 5, none⟩ qv').setCell ⟨b, 1, none⟩ (.int .i64 n1)).setCell ⟨b, 3, none⟩ (.int .i64 n3)) := (((Keeps.refl _ _).setCell (.inl (by simp)) _).setCell (.inl (by simp)) _).setCell (.inl (by simp)) _
  subst h3
  rw [he] at hok hq hm ⊢
  refine ⟨hok, ?_, ?_, ?_, ?_⟩
  · exact root_set (root_set (root_set hroot 5 _) 1 _) 3 _
  · exact (hk.block bp (lt_of_heap hpg) (by simpa using Ne.symm hbp)).trans hpg
  · exact ownsRow_keep hq (fun k hq' => hk.block k (hq.lt k hq').2 (by simp only [List.mem_singleton]; rintro rfl; exact hbq hq'))
  · exact hm.keep (hk.block bm hm.lt (by simpa using Ne.symm hbm))
end


/-- As things. -/
def diskThing (b : Nat) (d : D) (F : List Nat) : Thing := ⟨F, fun w => DiskAt w b d F, fun _ _ h hk => h.keep hk, fun _ h => h.lt⟩

/-- The synced bytes of a page; what it reads. -/
def D.page (d : D) (p : Nat) : List UInt8 := (d.img.drop (p * 256)).take 256
def D.read (d : D) (p : Nat) : List UInt8 := match newest d.q p with
  | some i => (d.q.getD i.toNat (0, [])).2
  | none => d.page p

theorem newest_some {q : List (Nat × List UInt8)} {p : Nat} {i : Int} (h : newest q p = some i) : 0 ≤ i ∧ i < q.length ∧ (q.getD i.toNat (0, [])).1 = p := by
  suffices hs : ∀ r : List (Nat × List UInt8), ∀ i, newest r.reverse p = some i → 0 ≤ i ∧ i < r.reverse.length ∧ (r.reverse.getD i.toNat (0, [])).1 = p by
    have := hs q.reverse i (by simpa using h)
    simpa using this
  intro r
  induction r with
  | nil => intro i h; simp [newest] at h
  | cons x r ih =>
    intro i h
    obtain ⟨x1, x2⟩ := x
    simp only [List.reverse_cons] at h ⊢
    rw [newest_snoc] at h
    by_cases e : (p : Int) = x1
    · simp only [e, if_true, Option.some.injEq] at h
      subst h
      refine ⟨by omega, by simp; omega, ?_⟩
      simp
      omega
    · simp only [e, if_false] at h
      obtain ⟨h1, h2, h3⟩ := ih i h
      refine ⟨h1, by simp at h2 ⊢; omega, ?_⟩
      rw [List.getD_eq_getElem?_getD, List.getElem?_append_left (by omega), ← List.getD_eq_getElem?_getD]
      exact h3
theorem D.read_length {d : D} (h : d.ok) {p : Nat} (hp : p < d.n) : (d.read p).length = 256 := by
  unfold D.read
  obtain ⟨o1, o2, o3, o4, o5, o6⟩ := h
  split
  · rename_i i hi
    obtain ⟨h1, h2, h3⟩ := newest_some hi
    have hl : i.toNat < d.q.length := by omega
    rw [List.getD_eq_getElem?_getD, List.getElem?_eq_getElem hl]
    exact (o4 _ (List.getElem_mem hl)).2
  · simp [D.page, o3]
    omega
theorem qCells_at {q : List (Nat × List UInt8)} (hq : ∀ p ∈ q, p.2.length = 256) {i : Nat} (hi : i < q.length) : ∃ xs zs, qCells q = xs ++ (.int .i64 q[i].1 :: q[i].2.map B) ++ zs ∧ xs.length = i * 257 := by
  refine ⟨qCells (q.take i), qCells (q.drop (i + 1)), ?_, ?_⟩
  · have e : q = q.take i ++ q[i] :: q.drop (i + 1) := by simp
    have e2 := congrArg qCells e
    simp only [qCells, List.flatMap_append, List.flatMap_cons] at e2 ⊢
    rw [← List.append_assoc] at e2
    exact e2
  · have : ∀ r : List (Nat × List UInt8), (∀ p ∈ r, p.2.length = 256) → (qCells r).length = r.length * 257 := by
      intro r
      induction r with
      | nil => simp [qCells]
      | cons x r ih =>
        intro h
        have h1 := ih (fun p hp => h p (by simp [hp]))
        have h2 := h x (by simp)
        simp only [qCells, List.flatMap_cons, List.length_append, List.length_cons, List.length_map] at h1 ⊢
        omega
    rw [this _ (fun p hp => hq p (List.mem_of_mem_take hp))]
    simp
    omega

/-- The cells of one open write, in the queue's row. -/
theorem queue_range {w : World} {q : List (Nat × List UInt8)} {gq cq : Nat} (h : w.ownsRow 0 86 257 (.slice (some ⟨gq, 0, none⟩) q.length cq) q.length (qCells q)) (hq : ∀ p ∈ q, p.2.length = 256) {i : Nat} (hi : i < q.length) :
    w.rangeAt gq (i * 257) (.int .i64 q[i].1 :: q[i].2.map B) := by
  rcases h.2 with ⟨hv, _⟩ | ⟨g, cap, cur, hv, _, hh, hle, _, hsz, htk⟩
  · cases hv
  · injection hv with e _ _
    injection e with e
    injection e with e
    subst e
    obtain ⟨xs, zs, hx, hxl⟩ := qCells_at hq hi
    obtain ⟨T, hT⟩ : ∃ T, T = cur.toList.drop (q.length * 257) := ⟨_, rfl⟩
    have hcur : cur = (xs ++ (Value.int .i64 (q[i].1 : Int) :: q[i].2.map B) ++ (zs ++ T)).toArray := by
      apply Array.ext'
      have e1 := List.take_append_drop (q.length * 257) cur.toList
      rw [htk, hx, ← hT] at e1
      rw [← e1]
      simp
    rw [hcur] at hh
    have := rangeAt_part hh
    rwa [hxl] at this
theorem run_store_w {l : List Value} (h : l.length = 257) (h1 : ∀ v ∈ l, v.oneCell' = true) (w : World) {n : Nat} (hn : n = w.heap.size) : (Instr.storeAt 86 (.pointer (some ⟨n, 0, none⟩)) (.agg l.toArray)).run Try.prog (w.alloc (.cells Try.zeroCells86 86)) = .ok () (w.alloc (.cells l.toArray 86)) := by
  subst hn
  exact run_storeAt_new w 86 Try.zeroCells86 l.toArray (by rw [size_write]; simp [h]) (by rw [Try.zeroCells86_size]; simp [h]) (all_oneCell_toArray h1)

end Go.Proofs.Ytbjffjplpnnhoaa
