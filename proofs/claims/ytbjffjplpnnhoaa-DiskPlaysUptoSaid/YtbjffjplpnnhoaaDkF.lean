/-
  The walks of package disk's Image and Load.
-/
import Derived.Test.YtbjffjplpnnhoaaDkE
namespace Go.Proofs.Ytbjffjplpnnhoaa
set_option linter.unusedVariables false
set_option linter.unusedSimpArgs false
open Go.RowKit

set_option maxRecDepth 100000 in
set_option maxHeartbeats 800000 in
theorem dImage_ok {w : World} {b : Nat} {d : D} {bp bm : Nat} {qv : Value} (hI : DiskIn w b d bp qv bm) :
    Calls Try.prog 14 #[.pointer (some ⟨b, 0, none⟩)] w fun e w' => ∃ g cap, e = .returned (.slice (some ⟨g, 0, none⟩) d.img.length cap) ∧ w.heap.size ≤ g ∧ OwnB w' (.slice (some ⟨g, 0, none⟩) d.img.length cap) d.img ∧ Keeps [] w w' := by
  have hok := hI.ok
  obtain ⟨o1, o2, o3, o4, o5, o6⟩ := hI.ok
  obtain ⟨c0, c1, c2, c3, c4, c5, c6, c7, c8, c9⟩ := hI.cells
  obtain ⟨i0, hi0, hz0, hz1, hz2⟩ := info_parts info_u8
  have HI0 := Lib.hid hi0
  have HZ0 := Lib.hid hz0
  have HZ1 := Lib.hid hz1
  have HZ2 := Lib.hid hz2
  clear hi0 hz0 hz1 hz2 c0 c1 c2 c3 c5 c6 c7 c8 c9
  go_enter Try.func14, Try.ntmps14
  go_wp2_with fail
  go_loopw [3, 10] (fun v i wr => ∃ k : Nat, k ≤ d.n ∧ i = .int .i64 k ∧ wr.ownsRow w.heap.size 5 1 v (256 * k) ((d.img.take (256 * k)).map B) ∧ Keeps [] w wr) (fun _ i _ => d.n - (intOf i).toNat)
  case atStart =>
    exact ⟨0, Nat.zero_le _, rfl, by simpa using World.ownsRow_nil w w.heap.size 5 1, Keeps.refl _ _⟩
  case round =>
    obtain ⟨k, hk, rfl, hown, hkr⟩ := hrel
    have hIr := hI.keeps hkr (by simp)
    have e4 : wr.cell? ⟨b, 4, none⟩ = some (.slice (some ⟨bp, 0, none⟩) d.n d.n) := hIr.cells.2.2.2.2.1
    have hsz := hkr.size
    by_cases hlt : k < d.n
    · have hk0 : (0 : Int) ≤ (k : Int) := Int.natCast_nonneg _
      have hk1 : (k : Int) < (d.n : Int) := by omega
      have hpg := page_length hok hlt
      have hr := page_range hIr.pages hok hlt
      have hnews : ∀ j u, ((d.page k).map B)[j]? = some u → wr.cell? ((⟨bp, k * 256, none⟩ : Addr).add j) = some u := fun j u hu => by rw [Addr.add_mid]; exact hr j u hu
      have hl1 : ((d.page k).map B).length = 256 * 1 := by simp [hpg]
      have hov := hown.lt
      have HOWN := Lib.hid hown
      have HNEWS := Lib.hid hnews
      have HR := Lib.hid hr
      clear hown hnews hr
      go_wp2_with (refine wpList_append_lies _ rfl (.tmp 13) (.tmp 20) 29 rfl w.heap.size 5 i0 (.int .u8 0) 1 1 Try.underlying29 HI0.out HZ0.out HZ1.out HZ2.out rfl (by omega) _ (256 * k) _ rfl HOWN.out ⟨bp, k * 256, none⟩ 256 256 ((d.page k).map B) rfl hl1 HNEWS.out (B_one _) (by omega) (by simp only [maxLen]; omega) (by omega) hsz _ rfl ?_)
      intro g cap w1 h1 h2 h3 h4
      go_wp2_with fail
      go_roundw
      case rel =>
        refine ⟨k + 1, by omega, by go_num, ?_, hkr.grown h2 (fun j hj => .inr (hov j hj).1)⟩
        have e1 : (d.img.take (256 * (k + 1))).map B = (d.img.take (256 * k)).map B ++ (d.page k).map B := by
          rw [← List.map_append]
          congr 1
          simp only [D.page]
          rw [Nat.mul_comm k 256, ← List.take_add, show 256 * (k + 1) = 256 * k + 256 from by omega]
        rw [e1, List.map_take]
        exact h1
      case measure => simp [intOf]; omega
    · have e : k = d.n := by omega
      have HOWN := Lib.hid hown
      clear hown hI
      go_wp2_with fail
      go_ret
      subst e
      have h := HOWN.out
      rw [← o3, List.take_length] at h
      obtain ⟨g, cap, hv, hg, hlt2⟩ := h.form (by omega)
      refine ⟨g, cap, by rw [hv]; rfl, hg, ?_, hkr⟩
      rw [hv] at h
      exact ownsRow_base h

theorem dLoad_size {w : World} {a : Option Addr} {len cap : Nat} (h : len % 256 ≠ 0) (hm : len ≤ 9223372036854775807) :
    Calls Try.prog 30 #[.slice a len cap] w fun e w' => e = .returned (.tuple #[.pointer none, .int .i64 42]) ∧ w = w' := by
  have h1 : ((len : Int) % 256 != 0) = true := by simp; omega
  go_enter Try.func30, Try.ntmps30
  go_wp2_with fail
  go_ret2
  exact ⟨rfl, rfl⟩
theorem dLoad_pages {w : World} {a : Option Addr} {len cap : Nat} (h : len % 256 = 0) (hm : len ≤ 9223372036854775807) (hn : len / 256 < 3 ∨ 4096 < len / 256) :
    Calls Try.prog 30 #[.slice a len cap] w fun e w' => e = .returned (.tuple #[.pointer none, .int .i64 40]) ∧ w = w' := by
  have h1 : ((len : Int) % 256 != 0) = false := by simp; omega
  clear h
  go_enter Try.func30, Try.ntmps30
  go_wp2_with fail
  refine (dNew_no _ (by omega)).mono ?_
  rintro e w' ⟨rfl, rfl⟩
  go_wp2_with fail
  go_ret2
  exact ⟨rfl, rfl⟩
theorem run_copy_part {W : World} {g go o so n m c1 c2 : Nat} {t : TypeId} {img l : List UInt8} (hp : W.heap[g]? = some (.cells (img.map B).toArray t (0, 0))) (hs : W.rangeAt go so (l.map B)) (hl : l.length = n) (hm : n ≤ m) (ho : o + n ≤ img.length) (ty : TypeId) :
    (Builtin.copy_ #[29, 29] ty #[.slice (some ⟨g, o, none⟩) n c1, .slice (some ⟨go, so, none⟩) m c2]).run Try.prog W = .ok (.int .i64 n) (W.setRow g ((setAt img o l).map B).toArray) := by
  have := run_copy_row (P := Try.prog) W 29 29 ty 5 g o n c1 ⟨go, so, none⟩ m c2 (img.map B).toArray t (l.map B) Try.underlying29 (by kernel_rfl) hp (by simp [hl]; show n = min m n; omega)
    (fun j v hv => by rw [Addr.add_mid]; exact hs j v hv) (by simp [hl]; omega) (B_one l)
  rw [this]
  simp [goInt, hl, setAt]
/-- The image after k pages. -/
def loaded (img : List UInt8) (n k : Nat) : List UInt8 := img.take (256 * k) ++ List.replicate (256 * (n - k)) 0
theorem loaded_length {img : List UInt8} {n k : Nat} (h : img.length = 256 * n) (hk : k ≤ n) : (loaded img n k).length = 256 * n := by
  simp only [loaded, List.length_append, List.length_take, List.length_replicate, h]
  omega
theorem loaded_succ {img : List UInt8} {n k : Nat} (h : img.length = 256 * n) (hk : k < n) : setAt (loaded img n k) (k * 256) ((img.drop (k * 256)).take 256) = loaded img n (k + 1) := by
  have hs : ((img.drop (k * 256)).take 256).length = 256 := by rw [List.length_take, List.length_drop, h]; omega
  have ht : (img.take (256 * k)).length = k * 256 := by rw [List.length_take, h]; omega
  have hd : (img.take (256 * k)).drop (k * 256 + 256) = [] := List.drop_of_length_le (by omega)
  have e1 : (loaded img n k).take (k * 256) = img.take (256 * k) := List.take_left' ht
  have e2 : (loaded img n k).drop (k * 256 + 256) = List.replicate (256 * (n - (k + 1))) 0 := by
    rw [loaded, List.drop_append, hd, ht, List.nil_append, List.drop_replicate]
    congr 1
    omega
  simp only [setAt, hs]
  rw [e1, e2, loaded, show 256 * (k + 1) = 256 * k + 256 from by omega, List.take_add, Nat.mul_comm k 256]

set_option maxRecDepth 100000 in
set_option maxHeartbeats 800000 in
theorem dLoad_ok {w : World} {v : Value} {img : List UInt8} (n : Nat) (hv : BytesAt w v img) (hl : img.length = 256 * n) (h3 : 3 ≤ n) (h4 : n ≤ 4096) :
    Calls Try.prog 30 #[v] w fun e w' => e = .returned (.tuple #[.pointer (some ⟨w.heap.size + 2, 0, none⟩), .int .i64 0]) ∧ Keeps [] w w' ∧ ∃ F, DiskAt w' (w.heap.size + 2) { D.new n with img } F ∧ From w [] F := by
  obtain ⟨a, c, rfl, hc1, hc2⟩ := hv.form
  unfold maxLen at hc2
  have h1 : ((img.length : Int) % 256 != 0) = false := by simp; omega
  have e1 : (img.length : Int) / 256 = (n : Int) := by omega
  go_enter Try.func30, Try.ntmps30
  go_wp2_with fail
  refine (dNew_yes n h3 h4).mono ?_
  rintro e w1 ⟨rfl, hk1, F, ⟨bp, qv, bm, hI, rfl⟩, hF⟩
  have e4 := hI.cells.2.2.2.2.1
  simp only [D.new] at e4
  go_wp2_with fail
  go_loopw [26] (fun i wr => ∃ k : Nat, k ≤ n ∧ i = .int .i64 k ∧ DiskIn wr (w.heap.size + 2) { D.new n with img := loaded img n k } bp qv bm ∧ Keeps [] w wr) (fun i _ => n - (intOf i).toNat)
  case atStart =>
    refine ⟨0, Nat.zero_le _, rfl, ?_, hk1⟩
    have e : ({ D.new n with img := loaded img n 0 } : D) = D.new n := by simp [D.new, loaded]
    rw [e]; exact hI
  case round =>
    obtain ⟨k, hk, rfl, hIr, hkr⟩ := hrel
    clear e4
    have e4 := hIr.cells.2.2.2.2.1
    simp only [D.new] at e4
    by_cases hlt : k < n
    · obtain ⟨ga, ao, rfl, hga, har⟩ : ∃ ga ao, a = some ⟨ga, ao, none⟩ ∧ ga < w.heap.size ∧ w.rangeAt ga ao (img.map B) := by
        rcases hv with ⟨h0, _⟩ | ⟨g, o, cap, hv, _, _, h3, h4⟩
        · subst h0; simp at hl; omega
        · injection hv with e _ _
          exact ⟨g, o, e, h3, h4⟩
      have har2 : wr.rangeAt ga ao (img.map B) := rangeAt_of_heap har (hkr.block ga hga (by simp))
      obtain ⟨seg, hseg⟩ : ∃ seg, seg = (img.drop (k * 256)).take 256 := ⟨_, rfl⟩
      have hsegl : seg.length = 256 := by rw [hseg]; simp; omega
      have hsr : wr.drew.rangeAt ga (ao + k * 256) (seg.map B) := fun j v hj => by
        have hjl := (List.getElem?_eq_some_iff.1 hj).1
        rw [Nat.add_assoc]
        refine har2 (k * 256 + j) v ?_
        rw [hseg] at hj
        simp only [List.getElem?_map, List.getElem?_take, List.getElem?_drop] at hj ⊢
        rw [List.length_map, hsegl] at hjl
        rwa [if_pos hjl] at hj
      have hIr' := hIr.keep (w' := wr.drew) (fun _ _ => rfl)
      have hil : k * 256 + 256 ≤ (loaded img n k).length := by rw [loaded_length hl hk]; omega
      have hcopy := fun (c1 c2 : Nat) (ty : TypeId) => run_copy_part (m := 256 * n - k * 256) (c1 := c1) (c2 := c2) hIr'.pages hsr hsegl (by omega) hil ty
      have hset := hIr'.setr (setAt (loaded img n k) (k * 256) seg) (setAt_length (by rw [hsegl]; exact hil))
      have heL : setAt (loaded img n k) (k * 256) seg = loaded img n (k + 1) := by rw [hseg]; exact loaded_succ hl hlt
      have HEL := Lib.hid heL
      have HSET := Lib.hid hset
      have HSEG := Lib.hid hseg
      have b0 : (0 : Int) ≤ (k : Int) := by omega
      have b1 : (k : Int) < (n : Int) := by omega
      have b2 : (0 : Int) ≤ (k : Int) * 256 := by omega
      have b3 : (k : Int) * 256 ≤ 256 * (n : Int) := by omega
      have b4 : k * 256 < c := by omega
      have b5 : (k : Int) * 256 < (c : Int) := by omega
      have b6 : 256 * (n : Int) ≤ (c : Int) := by omega
      have b7 : (k * 256 = c) = False := eq_false (by omega)
      have b9 : ((k : Int) * 256).toNat = k * 256 := by omega
      have b10 : IntKind.i64.wrap ((k : Int) * 256) = (k : Int) * 256 := IntWalk.i64_in _ (by omega)
      have b8 : (c = k * 256) = False := eq_false (by omega)
      have bpne : w.heap.size + 2 ≠ bp := hIr.apart.1
      clear hset hseg heL
      go_wp2_with fail
      go_region_held3 (fun w' => w'.cell? ⟨w.heap.size + 2, 4, none⟩ = some (.slice (some ⟨bp, 0, none⟩) n n)) (first | go_keep | (rw [cell_setRow_other _ _ _ _ (by simpa using bpne)]; assumption))
        ((refine st_builtin rfl .copy #[.tmp 35, .tmp 39] #[29, 29] rfl ?_; refine ⟨_, _, run_builtin_copy (hcopy _ _ _), ?_⟩; try simp only [Act.put, List.setIfInBounds_toArray, List.set_cons_zero, List.set_cons_succ, List.getElem_toArray, List.getElem_cons_zero, List.getElem_cons_succ]))
      go_wp2_with fail
      go_roundw
      case rel =>
        refine ⟨k + 1, by omega, by go_num, ?_, ?_⟩
        · rw [← HEL.out]; exact HSET.out.1
        · refine (hkr.drew).trans HSET.out.2 (fun j hj => ?_)
          obtain rfl : j = bp := by simpa using hj
          rcases hF j (by simp) with h | h
          · simp at h
          · exact .inr h
      case measure => simp [intOf]; omega
    · go_wp2_with fail
      go_ret2
      have ek : k = n := by omega
      subst ek
      have e : loaded img k k = img := by simp [loaded, ← hl]
      rw [e] at hIr
      exact ⟨rfl, hkr, _, ⟨bp, qv, bm, hIr, rfl⟩, hF⟩
end Go.Proofs.Ytbjffjplpnnhoaa
