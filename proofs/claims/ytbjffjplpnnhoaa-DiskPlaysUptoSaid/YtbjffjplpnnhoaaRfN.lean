/-
  ledgerref4: page, the walk.
-/
import Derived.Test.YtbjffjplpnnhoaaRfM
import Derived.Deep.DeepCutAuto
namespace Go.Proofs.Ytbjffjplpnnhoaa
set_option linter.unusedVariables false
set_option linter.unusedSimpArgs false
open Go.RowKit

def pgRead (r : R) (p : Nat) : List UInt8 := ((mineOf p r.play.q 0).getLast?.map Prod.snd).getD (pg r.play.img p)

theorem pgRead_none {r : R} {p : Nat} (h : mineOf p r.play.q 0 = []) : pgRead r p = pg r.play.img p := by unfold pgRead; rw [h]; rfl
theorem pgRead_some {r : R} {p : Nat} {x : Nat × List UInt8} (h : (mineOf p r.play.q 0).getLast? = some x) : pgRead r p = x.2 := by unfold pgRead; rw [h]; rfl
theorem own_at {w : World} {a : Option Addr} {n c : Nat} {l : List UInt8} (h : OwnB w (.slice a n c) l) (h0 : 0 < n) : ∃ g, a = some ⟨g, 0, none⟩ := by
  rcases h.2 with ⟨h1, h2⟩ | ⟨g, cap, cur, hv, _⟩
  · injection h1 with _ e _
    omega
  · injection hv with e _ _
    exact ⟨g, e⟩
theorem ints_at {w : World} {base : Nat} {e : TypeId} {size : Nat} {a : Option Addr} {m n c : Nat} {xs : List Value} (h : w.ownsRow base e size (.slice a m c) n xs) (h0 : 0 < n) : ∃ g, a = some ⟨g, 0, none⟩ ∧ m = n := by
  rcases h.2 with ⟨h1, h2⟩ | ⟨g, cap, cur, hv, _⟩
  · omega
  · injection hv with e e2 _
    exact ⟨g, e, e2⟩

theorem event_store (w : World) {l : List Value} (h : l.length = 5) (h1 : ∀ v ∈ l, v.oneCell' = true) : (Instr.storeAt 112 (.pointer (some ⟨w.heap.size, 0, none⟩)) (.agg l.toArray)).run Try.prog (w.alloc (.cells #[.int .i64 0, .int .i64 0, .int .i64 0, .slice none 0 0, .int .u32 0] 112)) = .ok () (w.alloc (.cells l.toArray 112)) :=
  run_storeAt_new w 112 #[.int .i64 0, .int .i64 0, .int .i64 0, .slice none 0 0, .int .u32 0] l.toArray (by rw [show (Try.prog.info? 112).map (·.size) = some 5 from by kernel_rfl]; simp [h]) (by simp [h]) (all_oneCell_toArray h1)
/-- The page after the first writes of a sync, of a crash. -/
def nowS (log : List Ev) (a : List UInt8) (ms : List (Nat × Nat)) (x : Nat) : List UInt8 := (ms.take x).foldl (fun _ y => dat log y.1) a
def nowC (log : List Ev) (F a : List UInt8) (ms : List (Nat × Nat)) (x : Nat) : List UInt8 := (ms.take x).foldl (fun now y => if y.2 < F.length then tearRow now 0 (dat log y.1) (F.getD y.2 0) 256 else now) a
theorem nowS_succ (log : List Ev) (a : List UInt8) (ms : List (Nat × Nat)) {x : Nat} (h : x < ms.length) : nowS log a ms (x + 1) = dat log ms[x].1 := by
  unfold nowS
  rw [List.take_succ_eq_append_getElem h, List.foldl_append]
  rfl
theorem nowC_succ (log : List Ev) (F a : List UInt8) (ms : List (Nat × Nat)) {x : Nat} (h : x < ms.length) : nowC log F a ms (x + 1) = if ms[x].2 < F.length then tearRow (nowC log F a ms x) 0 (dat log ms[x].1) (F.getD ms[x].2 0) 256 else nowC log F a ms x := by
  unfold nowC
  rw [List.take_succ_eq_append_getElem h, List.foldl_append]
  rfl
theorem nowC_length (log : List Ev) (F a : List UInt8) (ms : List (Nat × Nat)) : ∀ x, x ≤ ms.length → (nowC log F a ms x).length = a.length := by
  intro x
  induction x with
  | zero => intro _; simp [nowC]
  | succ x ih =>
    intro hx
    rw [nowC_succ log F a ms (by omega)]
    split
    · rw [tearRow_length]; exact ih (by omega)
    · exact ih (by omega)
theorem nowS_all {log : List Ev} {p n : Nat} {s : Pl} {ms : List (Nat × Nat)} (h : Pm log p s ms) (hs : s.fits n) (hp : p < n) {e : Ev} (he : e.kind = 2) : nowS log (pg s.img p) ms ms.length = pg (s.step e).img p := by
  unfold Pl.step nowS
  rw [if_neg (by omega), if_pos he, List.take_length]
  simp only
  rw [page_sync hp s.q 0 hs.1 hs.2, ← h.eq, List.foldl_map]
theorem nowC_all {log : List Ev} {p n : Nat} {s : Pl} {ms : List (Nat × Nat)} (h : Pm log p s ms) (hs : s.fits n) (hp : p < n) {e : Ev} (he : e.kind = 3) : nowC log e.data (pg s.img p) ms ms.length = pg (s.step e).img p := by
  unfold Pl.step nowC
  rw [if_neg (by omega), if_neg (by omega), if_pos he, List.take_length]
  simp only
  have e1 := page_crash hp e.data s.q 0 hs.1 hs.2
  rw [List.drop_zero] at e1
  rw [e1, ← h.eq, List.foldl_map]
theorem size_event : (Try.prog.info? 112).map (·.size) = some 5 := by kernel_rfl

set_option maxRecDepth 100000 in
set_option maxHeartbeats 4000000 in
theorem rfPage_any {w : World} {b : Nat} {r : R} {F : List Nat} (h : RefAt w b r F) {n : Nat} (hn : r.base.length = 256 * n) (hm : n ≤ 4096) (p : Nat) (hp : p < n) (hq : r.log.length < 4294967296) (hf : ∀ e ∈ r.log, e.fits n) :
    Calls Try.prog 56 #[.pointer (some ⟨b, 0, none⟩), .int .i64 p] w fun e w' => ∃ gn cn g c, e = .returned (.tuple #[.slice (some ⟨gn, 0, none⟩) 256 cn, .slice (some ⟨g, 0, none⟩) 256 c]) ∧ w.heap.size ≤ gn ∧ OwnB w' (.slice (some ⟨gn, 0, none⟩) 256 cn) (pg r.play.img p) ∧ w.heap.size ≤ g ∧ OwnB w' (.slice (some ⟨g, 0, none⟩) 256 c) (pgRead r p) ∧ Keeps [] w w' := by
  obtain ⟨bv, lv, dvs, hI, rfl⟩ := h
  obtain ⟨ab, cb, rfl⟩ := hI.bform
  obtain ⟨al, cl, rfl⟩ := hI.lform
  have hIA := fun (wx : World) (hk : Keeps [] w wx) => hI.keep (w' := wx) (fun k hkF => hk.block k (hI.lt k hkF) (by simp))
  have HIA := Lib.hid hIA
  have hlts : ∀ v ∈ dvs, ∀ k, v.ownBlock = some k → k < w.heap.size := fun v hv k hk => hI.lt k (by simp only [rFoot, List.mem_cons, List.mem_append, List.mem_flatMap, Option.mem_toList]; exact .inr (.inr ⟨v, hv, hk⟩))
  have HLTS := Lib.hid hlts
  have hltb : b < w.heap.size := hI.lt b (by simp [rFoot])
  have HLTB := Lib.hid hltb
  have hltl : ∀ k, (Value.slice al r.log.length cl).ownBlock = some k → k < w.heap.size := fun k hk => hI.lt k (by simp only [rFoot, List.mem_cons, List.mem_append, Option.mem_toList]; exact .inr (.inl (.inl hk)))
  have HLTL := Lib.hid hltl
  clear hlts hltb hltl
  have hfits := fun k => r.playN_fits hn hf k
  have HFITS := Lib.hid hfits
  obtain ⟨c0, c1, c2, c3, c4, c5⟩ := hI.cells
  obtain ⟨gb, hgb⟩ : ∃ gb, ab = some ⟨gb, 0, none⟩ := by
    rcases hI.base.2 with ⟨h0, h1⟩ | ⟨g, cap, cur, hv, _⟩
    · omega
    · injection hv with e _ _
      exact ⟨g, e⟩
  subst hgb
  obtain ⟨_, hbh, hbl, hbc1, hbc2, _⟩ := hI.base.row
  unfold maxLen at hbc2
  have HBC := Lib.hid (show BytesAt w (.slice (some ⟨gb, p * 256, none⟩) 256 (cb - p * 256)) (pg r.base p) from OwnB.part hI.base p (by omega) _ (by omega) (by simp only [maxLen]; omega))
  have hcp := rfCopied_any HBC.out (by rw [pg_length hn hp]; omega)
  rw [pg_length hn hp] at hcp
  have HCP := Lib.hid hcp
  have HF := Lib.hid hf
  have HN := Lib.hid hn
  clear hI hIA hfits hbh hf hcp
  go_enter Try.func56, Try.ntmps56
  go_wp2_with fail
  simp only [show (p + 1) * 256 - p * 256 = 256 from by omega]
  refine HCP.out.mono ?_
  rintro e w1 ⟨a1, cn, rfl, hO, hfar, hk1⟩
  obtain ⟨g1, rfl⟩ := own_at hO (by omega)
  have hP1 : Pd w w1 [] (pg (r.playN 0).img p) g1 cn (.slice none 0 0) (.slice none 0 0) := by
    refine ⟨hO, ?_, World.ownsRow_nil _ _ _ _, World.ownsRow_nil _ _ _ _, hfar g1 rfl, by simp [Value.ownBlock], by simp [Value.ownBlock], by simp [Value.ownBlock], hk1⟩
    exact pg_length HN.out hp
  have HP1 := Lib.hid hP1
  clear hP1 hO hfar hk1
  go_wp2_with fail
  go_loopw [6, 7, 8, 9, 10] (fun now mine place op i wr => ∃ (k : Nat) (ms : List (Nat × Nat)) (g cap : Nat) (vm vp : Value), k ≤ r.log.length ∧ now = .slice (some ⟨g, 0, none⟩) 256 cap ∧ mine = vm ∧ place = vp ∧ op = .int .i64 (r.playN k).q.length ∧ i = .int .i64 k ∧ Pd w wr ms (pg (r.playN k).img p) g cap vm vp ∧ Pm r.log p (r.playN k) ms) (fun _ _ _ _ i _ => r.log.length - (intOf i).toNat)
  case atStart => exact ⟨0, [], g1, cn, _, _, Nat.zero_le _, rfl, rfl, rfl, rfl, rfl, HP1.out, Pm.nil rfl⟩
  case round =>
    obtain ⟨k, ms, g, cap, vm, vp, hk, rfl, rfl, rfl, rfl, rfl, hPd, hPm⟩ := hrel
    obtain ⟨am, cm, rfl⟩ := owns_slice' hPd.mine
    obtain ⟨ap, cp, rfl⟩ := owns_slice' hPd.place
    have hQ := r.playN_q k hk
    obtain ⟨N, hNq⟩ : ∃ N, N = (r.playN k).q.length := ⟨_, rfl⟩
    rw [← hNq] at hQ
    have hms := hPm.len
    rw [← hNq] at hms ⊢
    have HNQ := Lib.hid hNq
    have HPD := Lib.hid hPd
    have HPM := Lib.hid hPm
    have hIw := HIA.out wr hPd.keeps
    obtain ⟨d0, d1, d2, d3, d4, d5⟩ := hIw.cells
    clear hNq hPd hPm HP1 HBC HCP c0 c1 c2 c3 c4 c5
    by_cases hlt : k < r.log.length
    · obtain ⟨gl, cap', dv, hlv, hdv, hdO, hrg, hgl⟩ := hIw.ev hlt
      injection hlv with e1 _ e3
      subst e1 e3
      have HE := r.playN_succ hlt
      have hfe := HF.out _ (List.getElem_mem hlt)
      obtain ⟨ev, hev⟩ : ∃ ev, ev = r.log[k] := ⟨_, rfl⟩
      rw [← hev] at HE hfe hrg hdO
      have HEV := Lib.hid hev
      have HSTEP := Lib.hid HE
      have HRG := Lib.hid hrg
      have HDO := Lib.hid hdO
      have HFE := Lib.hid hfe
      have hcell := hrg 0 (.int .i64 ev.kind) rfl
      obtain ⟨EC, hEC⟩ : ∃ EC, EC = ev.cells dv := ⟨_, rfl⟩
      have hec5 : EC.length = 5 := by rw [hEC]; rfl
      have hec1 : ∀ u ∈ EC, u.oneCell' = true := by rw [hEC]; exact ev.ones (hIw.ones dv (List.mem_of_getElem? hdv))
      have hrg2 := hrg
      rw [← hEC] at hrg2
      have HEC := Lib.hid hEC
      have k0 : (0 : Int) ≤ (k : Int) := by omega
      have k1 : (k : Int) < (r.log.length : Int) := by omega
      clear hev HE hfe hrg hdO hEC hcell
      go_upto_region 9 with (first | (refine wl_load rfl 112 (.tmp 40) rfl ?_; refine ⟨_, _, run_loadAt_mid _ _ _ _ _ _ hrg2 Try.underlying112 rfl (by rw [size_event, hec5]), ?_⟩; try simp only [Act.put, List.setIfInBounds_toArray, List.set_cons_zero, List.set_cons_succ, List.getElem_toArray, List.getElem_cons_zero, List.getElem_cons_succ]) | (refine wl_store rfl 112 (.tmp 11) (.tmp 41) rfl ?_; refine ⟨_, event_store wr hec5 hec1, ?_⟩; try simp only [Act.put, List.setIfInBounds_toArray, List.set_cons_zero, List.set_cons_succ, List.getElem_toArray, List.getElem_cons_zero, List.getElem_cons_succ]))
      obtain ⟨ge, hge⟩ : ∃ ge, ge = wr.heap.size := ⟨_, rfl⟩
      obtain ⟨we, hwe⟩ : ∃ we, we = wr.alloc (.cells EC.toArray 112) := ⟨_, rfl⟩
      have hkwe : Keeps [] wr we := by rw [hwe]; exact (Keeps.refl _ _).alloc _
      have heh : we.heap[ge]? = some (.cells EC.toArray 112 (0, 0)) := by rw [hwe, hge]; exact heap_new_at rfl
      rw [← hwe, ← hge]
      have hPe := HPD.out.keep hkwe
      rw [HEC.out] at heh
      have E0 : we.cell? ⟨ge, 0, none⟩ = some (.int .i64 ev.kind) := by rw [cell_of_row we ge 0 _ _ _ heh]; rfl
      have E1 : we.cell? ⟨ge, 1, none⟩ = some (.int .i64 ev.page) := by rw [cell_of_row we ge 1 _ _ _ heh]; rfl
      have E2 : we.cell? ⟨ge, 2, none⟩ = some (.int .i64 ev.bit) := by rw [cell_of_row we ge 2 _ _ _ heh]; rfl
      have E3 : we.cell? ⟨ge, 3, none⟩ = some dv := by rw [cell_of_row we ge 3 _ _ _ heh]; rfl
      have E4 : we.cell? ⟨ge, 4, none⟩ = some (.int .u32 ev.pat) := by rw [cell_of_row we ge 4 _ _ _ heh]; rfl
      have HPE := Lib.hid hPe
      have HEH := Lib.hid heh
      have HKE := Lib.hid hkwe
      have HGE := Lib.hid hge
      have HWE := Lib.hid hwe
      clear hPe heh hkwe hwe hge hrg2 hec1 hec5 HEC d0 d1 d2 d3 d4 d5
      have hfe := HFE.out
      rcases hfe with ⟨hk1, hpg, hdl⟩ | hk2 | ⟨hk3, hdl⟩ | ⟨hk4, hpg, hbt, hpt⟩
      · rw [hk1] at E0
        simp only [show ((1 : Nat) : Int) = 1 from rfl] at E0
        have HK := Lib.hid hk1
        have HDL := Lib.hid hdl
        clear hk1 hdl E2 E3 E4
        by_cases hpe : ev.page = p
        · rw [hpe] at E1
          have HPG := Lib.hid hpe
          clear hpe
          obtain ⟨gm, cm', wm, hrm, hom, hkm, hgm⟩ := push_int HPE.out.mine (by omega) HPE.out.keeps.size (k : Int) 115
          have hpl : wm.ownsRow w.heap.size 3 1 (.slice ap ms.length cp) ms.length (ms.map fun x => .int .i64 x.2) := ownsRow_keep HPE.out.place (fun j hj => hkm.block j (World.ownsRow.lt HPE.out.place j hj).2 (fun hm => HPE.out.ap3 j (by simpa using hm) hj))
          obtain ⟨gp, cp', wp, hrp, hop, hkp, hgp⟩ := push_int hpl (by omega) (Nat.le_trans HPE.out.keeps.size hkm.size) (N : Int) 115
          have HAM := Lib.hid (run_builtin_append hrm)
          have HAP := Lib.hid (run_builtin_append hrp)
          have HB1 := Lib.hid (run_buildSlice_int we (k : Int))
          have HB2 := Lib.hid (run_buildSlice_int wm (N : Int))
          have hmore := HPE.out.more (i := k) (j := N) hom hkm hgm hop hkp hgp rfl rfl
          have HMO := Lib.hid hmore
          clear hrm hom hkm hgm hpl hrp hop hkp hgp hmore
          go_wp2_with (first | (refine wl_buildSlice rfl 115 1 #[(0, .tmp 51)] #[(0, .int .i64 k)] rfl (by simp [Act.eval]) ?_; refine ⟨_, _, HB1.out, ?_⟩; try simp only [Act.put, List.setIfInBounds_toArray, List.set_cons_zero, List.set_cons_succ, List.getElem_toArray, List.getElem_cons_zero, List.getElem_cons_succ]) | (refine wl_buildSlice rfl 115 1 #[(0, .tmp 55)] #[(0, .int .i64 N)] rfl (by simp [Act.eval]) ?_; refine ⟨_, _, HB2.out, ?_⟩; try simp only [Act.put, List.setIfInBounds_toArray, List.set_cons_zero, List.set_cons_succ, List.getElem_toArray, List.getElem_cons_zero, List.getElem_cons_succ]) | (refine wl_builtin rfl .append #[.tmp 50, .tmp 52] #[115, 115] rfl ?_; simp only [List.map_toArray, List.map_cons, List.map_nil]; refine ⟨_, _, HAM.out, ?_⟩; try simp only [Act.put, List.setIfInBounds_toArray, List.set_cons_zero, List.set_cons_succ, List.getElem_toArray, List.getElem_cons_zero, List.getElem_cons_succ]) | (refine wl_builtin rfl .append #[.tmp 54, .tmp 56] #[115, 115] rfl ?_; simp only [List.map_toArray, List.map_cons, List.map_nil]; refine ⟨_, _, HAP.out, ?_⟩; try simp only [Act.put, List.setIfInBounds_toArray, List.set_cons_zero, List.set_cons_succ, List.getElem_toArray, List.getElem_cons_zero, List.getElem_cons_succ]))
          go_roundw
          case rel =>
            refine ⟨k + 1, ms ++ [(k, N)], g, cap, _, _, by omega, rfl, rfl, rfl, ?_, by go_num, ?_, ?_⟩
            · rw [HSTEP.out, q_write HK.out, ← HNQ.out]; go_num
            · rw [HSTEP.out, img_write HK.out]; exact HMO.out
            · rw [HSTEP.out, HEV.out, HNQ.out]
              exact HPM.out.write hlt (by rw [← HEV.out]; exact HDL.out) (by rw [← HEV.out]; exact HK.out) (by rw [← HEV.out]; exact HPG.out)
          case measure => simp [intOf]; omega
        · have hpi : ¬ (ev.page : Int) = (p : Int) := by omega
          have HPG := Lib.hid hpe
          clear hpe
          go_wp2_with fail
          go_roundw
          case rel =>
            refine ⟨k + 1, ms, g, cap, _, _, by omega, rfl, rfl, rfl, ?_, by go_num, ?_, ?_⟩
            · rw [HSTEP.out, q_write HK.out, ← HNQ.out]; go_num
            · rw [HSTEP.out, img_write HK.out]; exact HPE.out
            · rw [HSTEP.out, HEV.out]
              exact HPM.out.other hlt (by rw [← HEV.out]; exact HK.out) (by rw [← HEV.out]; exact HPG.out)
          case measure => simp [intOf]; omega
      · rw [hk2] at E0
        simp only [show ((2 : Nat) : Int) = 2 from rfl] at E0
        have HK := Lib.hid hk2
        clear hk2 E1 E2 E3 E4
        go_wp2_with fail
        obtain ⟨wo, rfl⟩ : ∃ wo : World, wo = wr := ⟨_, rfl⟩
        go_loopw [6, 12] (fun now j wi => ∃ (x g' cap' : Nat), x ≤ ms.length ∧ now = .slice (some ⟨g', 0, none⟩) 256 cap' ∧ j = .int .i64 x ∧ Pd w wi ms (nowS r.log (pg (r.playN k).img p) ms x) g' cap' (.slice am ms.length cm) (.slice ap ms.length cp)) (fun _ j _ => ms.length - (intOf j).toNat)
        case atStart => exact ⟨0, g, cap, Nat.zero_le _, rfl, rfl, HPE.out⟩
        case round =>
          obtain ⟨x, g', cap', hx, rfl, rfl, hPx⟩ := hrel
          have HPX := Lib.hid hPx
          have hIx := HIA.out wr hPx.keeps
          obtain ⟨d0, d1, d2, d3, d4, d5⟩ := hIx.cells
          clear d0 d2 d3 d4 d5
          have x0 : (0 : Int) ≤ (x : Int) := by omega
          by_cases hxl : x < ms.length
          · obtain ⟨y, hy⟩ : ∃ y, y = ms[x] := ⟨_, rfl⟩
            have hym := HPM.out.lt y (by rw [hy]; exact List.getElem_mem hxl)
            have hyk := HPM.out.kind y (by rw [hy]; exact List.getElem_mem hxl)
            obtain ⟨gl2, cap2, dy, hlv2, hdy, hdyO, hrg2, hgl2⟩ := hIx.ev hym
            injection hlv2 with e1 _ e3
            injection e1 with e1
            injection e1 with e1 _
            subst e1 e3
            rw [← dat_at hym] at hdyO
            obtain ⟨ay, cy, rfl⟩ := owns_slice' hdyO
            rw [hyk] at hrg2 hdyO
            have F1 := hrg2 3 _ rfl
            obtain ⟨gm, ham, _⟩ := ints_at hPx.mine (by omega)
            subst ham
            have F2 : wr.cell? ⟨gm, x, none⟩ = some (.int .i64 y.1) := ints_cell hPx.mine (by rw [List.getElem?_map, List.getElem?_eq_getElem hxl, hy]; rfl)
            have cp1 := rfCopied_any (w := wr.drew) (l := dat r.log y.1) (ownB_bytes (ownsRow_keep (w' := wr.drew) (show OwnB wr _ (dat r.log y.1) from by rw [← hyk] at hdyO; exact hdyO) (fun _ _ => rfl))) (by rw [hyk]; omega)
            rw [hyk] at cp1
            have CP := Lib.hid cp1
            clear cp1
            have hsucc := nowS_succ r.log (pg (r.playN k).img p) ms hxl
            rw [← hy] at hsucc
            have HSU := Lib.hid hsucc
            have x1 : (x : Int) < (ms.length : Int) := by omega
            have y0 : (0 : Int) ≤ (y.1 : Int) := by omega
            have y1 : (y.1 : Int) < (r.log.length : Int) := by omega
            have HYK := Lib.hid hyk
            have hlb := lt_of_heap hIx.root
            have hlm := (World.ownsRow.lt hPx.mine gm rfl).2
            have hS : ∀ wy, Keeps [] wr wy → wy.cell? ⟨b, 1, none⟩ = some (.slice (some ⟨gl, 0, none⟩) r.log.length cl) ∧ wy.cell? ⟨gm, x, none⟩ = some (.int .i64 y.1) ∧ wy.cell? ⟨gl, y.1 * 5 + 3, none⟩ = some (.slice ay 256 cy) := fun wy hk =>
              ⟨(World.cell?_of_block (w := wr) (w' := wy) (a := ⟨b, 1, none⟩) (hk.block b hlb (by simp))).trans d1, (World.cell?_of_block (w := wr) (w' := wy) (a := ⟨gm, x, none⟩) (hk.block gm hlm (by simp))).trans F2, (World.cell?_of_block (w := wr) (w' := wy) (a := ⟨gl, y.1 * 5 + 3, none⟩) (hk.block gl hgl2 (by simp))).trans F1⟩
            have HS := Lib.hid hS
            clear hy hyk hdy hdyO hrg2 hsucc hIx hPx hS hlb hlm
            go_upto_region 19 with fail
            refine wp_region_held_drew (S := (fun wy => wy.cell? ⟨b, 1, none⟩ = some (.slice (some ⟨gl, 0, none⟩) r.log.length cl) ∧ wy.cell? ⟨gm, x, none⟩ = some (.int .i64 y.1) ∧ wy.cell? ⟨gl, y.1 * 5 + 3, none⟩ = some (.slice ay 256 cy))) (by kernel_rfl) ?_ (fun hHeld => ?_)
            · exact ⟨d1, F2, F1⟩
            refine' wpAnyH_take (i := 0) (v := _) rfl (by kernel_rfl) (by kernel_rfl) (by kernel_rfl) (fun _ _ _ h => h) (Or.inl ⟨by rfl, ?_⟩) (by assumption) ?_
            rotate_left 1
            · (intro w0 hSw; (try dsimp only at hSw); go_split_ands; go_simp; (try with_reducible rfl))
            try simp only [Act.put, List.setIfInBounds_toArray, List.set_cons_zero, List.set_cons_succ, List.getElem_toArray, List.getElem_cons_zero, List.getElem_cons_succ]
            refine' wpAnyH_take (i := 1) (v := _) rfl (by kernel_rfl) (by kernel_rfl) (by kernel_rfl) (fun _ _ _ h => h) (Or.inl ⟨by rfl, ?_⟩) (by assumption) ?_
            rotate_left 1
            · (intro w0 hSw; (try dsimp only at hSw); go_split_ands; go_simp; (try with_reducible rfl))
            try simp only [Act.put, List.setIfInBounds_toArray, List.set_cons_zero, List.set_cons_succ, List.getElem_toArray, List.getElem_cons_zero, List.getElem_cons_succ]
            refine' wpAnyH_take (i := 2) (v := _) rfl (by kernel_rfl) (by kernel_rfl) (by kernel_rfl) (fun _ _ _ h => h) (Or.inl ⟨by rfl, ?_⟩) (by assumption) ?_
            rotate_left 1
            · (intro w0 hSw; (try dsimp only at hSw); go_split_ands; go_simp; (try with_reducible rfl))
            try simp only [Act.put, List.setIfInBounds_toArray, List.set_cons_zero, List.set_cons_succ, List.getElem_toArray, List.getElem_cons_zero, List.getElem_cons_succ]
            refine' wpAnyH_take (i := 3) (v := _) rfl (by kernel_rfl) (by kernel_rfl) (by kernel_rfl) (fun _ _ _ h => h) (Or.inl ⟨by rfl, ?_⟩) (by assumption) ?_
            rotate_left 1
            · (intro w0 hSw; (try dsimp only at hSw); go_split_ands; go_simp; (try with_reducible rfl))
            try simp only [Act.put, List.setIfInBounds_toArray, List.set_cons_zero, List.set_cons_succ, List.getElem_toArray, List.getElem_cons_zero, List.getElem_cons_succ]
            refine' wpAnyH_take (i := 4) (v := _) rfl (by kernel_rfl) (by kernel_rfl) (by kernel_rfl) (fun _ _ _ h => h) (Or.inl ⟨by rfl, ?_⟩) (by assumption) ?_
            rotate_left 1
            · (intro w0 hSw; (try dsimp only at hSw); go_split_ands; go_simp; (try with_reducible rfl))
            try simp only [Act.put, List.setIfInBounds_toArray, List.set_cons_zero, List.set_cons_succ, List.getElem_toArray, List.getElem_cons_zero, List.getElem_cons_succ]
            refine' wpAnyH_take (i := 5) (v := _) rfl (by kernel_rfl) (by kernel_rfl) (by kernel_rfl) (fun _ _ _ h => h) (Or.inl ⟨by rfl, ?_⟩) (by assumption) ?_
            rotate_left 1
            · (intro w0 hSw; (try dsimp only at hSw); go_split_ands; go_simp; (try with_reducible rfl))
            try simp only [Act.put, List.setIfInBounds_toArray, List.set_cons_zero, List.set_cons_succ, List.getElem_toArray, List.getElem_cons_zero, List.getElem_cons_succ]
            refine' wpAnyH_take (i := 6) (v := _) rfl (by kernel_rfl) (by kernel_rfl) (by kernel_rfl) (fun _ _ _ h => h) (Or.inl ⟨by rfl, ?_⟩) (by assumption) ?_
            rotate_left 1
            · (intro w0 hSw; (try dsimp only at hSw); go_split_ands; go_simp; (try with_reducible rfl))
            try simp only [Act.put, List.setIfInBounds_toArray, List.set_cons_zero, List.set_cons_succ, List.getElem_toArray, List.getElem_cons_zero, List.getElem_cons_succ]
            refine' wpAnyH_take (i := 7) (v := _) rfl (by kernel_rfl) (by kernel_rfl) (by kernel_rfl) (fun _ _ _ h => h) (Or.inl ⟨by rfl, ?_⟩) (by assumption) ?_
            rotate_left 1
            · (intro w0 hSw; (try dsimp only at hSw); go_split_ands; go_simp; (try with_reducible rfl))
            try simp only [Act.put, List.setIfInBounds_toArray, List.set_cons_zero, List.set_cons_succ, List.getElem_toArray, List.getElem_cons_zero, List.getElem_cons_succ]
            refine' wpAnyH_take (i := 8) (v := _) rfl (by kernel_rfl) (by kernel_rfl) (by kernel_rfl) (fun _ _ _ h => h) (Or.inl ⟨by rfl, ?_⟩) (by assumption) ?_
            rotate_left 1
            · (intro w0 hSw; (try dsimp only at hSw); go_split_ands; go_simp; (try with_reducible rfl))
            try simp only [Act.put, List.setIfInBounds_toArray, List.set_cons_zero, List.set_cons_succ, List.getElem_toArray, List.getElem_cons_zero, List.getElem_cons_succ]
            refine' wpAnyH_take (i := 9) (v := _) rfl (by kernel_rfl) (by kernel_rfl) (by kernel_rfl) (fun _ _ _ h => h) (Or.inl ⟨by rfl, ?_⟩) (by assumption) ?_
            rotate_left 1
            · (intro w0 hSw; (try dsimp only at hSw); go_split_ands; go_simp; (try with_reducible rfl))
            try simp only [Act.put, List.setIfInBounds_toArray, List.set_cons_zero, List.set_cons_succ, List.getElem_toArray, List.getElem_cons_zero, List.getElem_cons_succ]
            refine' wpAnyH_take (i := 10) (v := _) rfl (by kernel_rfl) (by kernel_rfl) (by kernel_rfl) (fun _ _ _ h => h) (Or.inl ⟨by rfl, ?_⟩) (by assumption) ?_
            rotate_left 1
            · (intro w0 hSw; (try dsimp only at hSw); go_split_ands; go_simp; (try with_reducible rfl))
            try simp only [Act.put, List.setIfInBounds_toArray, List.set_cons_zero, List.set_cons_succ, List.getElem_toArray, List.getElem_cons_zero, List.getElem_cons_succ]
            refine wpAnyH_ready (rs := [11]) (by kernel_rfl) (by simp) ?_
            refine AllReadyH.cons rfl (fun K hK => ?_) AllReadyH.nil
            go_simp
            refine CP.out.mono ?_
            rintro e w4 ⟨a4, c4, rfl, hO4, hf4, hk4⟩
            obtain ⟨g4, rfl⟩ := own_at hO4 (by omega)
            have hkx : Keeps [] wr w4 := ((Keeps.refl [] wr).drew).trans (G := []) hk4 (by simp)
            have hP4 := HPX.out.newNow hkx hO4 HYK.out (by have := hf4 g4 rfl; simpa using this)
            have HP4 := Lib.hid hP4
            refine hK.out _ _ ?_ (fun hHeld => ?_)
            · exact HS.out w4 hkx
            clear hK K
            try simp only [Act.put, List.setIfInBounds_toArray, List.set_cons_zero, List.set_cons_succ, List.getElem_toArray, List.getElem_cons_zero, List.getElem_cons_succ]
            refine' wpAnyH_take (i := 12) (v := _) rfl (by kernel_rfl) (by kernel_rfl) (by kernel_rfl) (fun _ _ _ h => h) (Or.inl ⟨by rfl, ?_⟩) (by assumption) ?_
            rotate_left 1
            · (intro w0 hSw; (try dsimp only at hSw); go_split_ands; go_simp; (try with_reducible rfl))
            try simp only [Act.put, List.setIfInBounds_toArray, List.set_cons_zero, List.set_cons_succ, List.getElem_toArray, List.getElem_cons_zero, List.getElem_cons_succ]
            refine wpAnyH_done (by kernel_rfl) ?_ _
            clear hP4 hO4 hf4 hk4 hkx
            go_wp2_with fail
            go_roundw
            case rel => exact ⟨x + 1, g4, c4, by omega, rfl, by go_num, by rw [HSU.out]; exact HP4.out⟩
            case measure => simp [intOf]; omega
          · have e : x = ms.length := by omega
            subst e
            have hfk := HFITS.out k
            have hall := nowS_all (e := ev) HPM.out hfk hp HK.out
            have HALL := Lib.hid hall
            clear hall hfk hIx hPx
            go_wp2_with fail
            go_roundw
            case rel =>
              refine ⟨k + 1, [], g', cap', _, _, by omega, rfl, rfl, rfl, ?_, by go_num, ?_, ?_⟩
              · rw [HSTEP.out, q_sync (.inl HK.out)]; rfl
              · rw [HSTEP.out, ← HALL.out]; exact HPX.out.clear
              · rw [HSTEP.out]; exact Pm.nil (q_sync (.inl HK.out))
            case measure => simp [intOf]; omega
      · rw [hk3] at E0
        simp only [show ((3 : Nat) : Int) = 3 from rfl] at E0
        have HK := Lib.hid hk3
        have HDL := Lib.hid hdl
        have hdO := HDO.out
        obtain ⟨af, cf, rfl⟩ := owns_slice' hdO
        have hgg : ge ≠ g := by
          have e1 := HGE.out
          have e2 := (World.ownsRow.lt HPD.out.now g rfl).2
          omega
        have HGG := Lib.hid hgg
        obtain ⟨fd, hfd⟩ : ∃ fd, fd = ev.data := ⟨_, rfl⟩
        rw [← hfd] at E3 hdO hdl
        have HFD := Lib.hid hfd
        clear hk3 E1 E2 E4 hdO hgg hfd
        go_wp2_with fail
        obtain ⟨wo, rfl⟩ : ∃ wo : World, wo = wr := ⟨_, rfl⟩
        go_loopw [6, 13] (fun now j wi => ∃ (x : Nat), x ≤ ms.length ∧ now = .slice (some ⟨g, 0, none⟩) 256 cap ∧ j = .int .i64 x ∧ Pd w wi ms (nowC r.log fd (pg (r.playN k).img p) ms x) g cap (.slice am ms.length cm) (.slice ap ms.length cp) ∧ Keeps [g] we wi) (fun _ j _ => ms.length - (intOf j).toNat)
        case atStart => exact ⟨0, Nat.zero_le _, rfl, rfl, HPE.out, Keeps.refl _ _⟩
        case round =>
          obtain ⟨x, hx, rfl, rfl, hPx, hke⟩ := hrel
          have HPX := Lib.hid hPx
          have HKX := Lib.hid hke
          have hIx := HIA.out wr hPx.keeps
          obtain ⟨d0, d1, d2, d3, d4, d5⟩ := hIx.cells
          have F3 : wr.cell? ⟨ge, 3, none⟩ = some (.slice af fd.length cf) := (World.cell?_of_block (w := we) (w' := wr) (a := ⟨ge, 3, none⟩) (hke.block ge (lt_of_heap HEH.out) (by simpa using HGG.out))).trans E3
          clear d0 d2 d3 d4 d5 E3 hke
          have x0 : (0 : Int) ≤ (x : Int) := by omega
          by_cases hxl : x < ms.length
          · obtain ⟨y, hy⟩ : ∃ y, y = ms[x] := ⟨_, rfl⟩
            have hym := HPM.out.lt y (by rw [hy]; exact List.getElem_mem hxl)
            have hyk := HPM.out.kind y (by rw [hy]; exact List.getElem_mem hxl)
            obtain ⟨gp, hap, _⟩ := ints_at hPx.place (by omega)
            subst hap
            have F2 : wr.cell? ⟨gp, x, none⟩ = some (.int .i64 y.2) := ints_cell hPx.place (by rw [List.getElem?_map, List.getElem?_eq_getElem hxl, hy]; rfl)
            have hsucc := nowC_succ r.log fd (pg (r.playN k).img p) ms hxl
            rw [← hy] at hsucc
            have x1 : (x : Int) < (ms.length : Int) := by omega
            have p0 : (0 : Int) ≤ (y.2 : Int) := by omega
            by_cases hyp : y.2 < fd.length
            · rw [if_pos hyp] at hsucc
              have HSU := Lib.hid hsucc
              have p1 : (y.2 : Int) < (fd.length : Int) := by omega
              have hg1 : g < wr.heap.size := (World.ownsRow.lt hPx.now g rfl).2
              have hg0 := hPx.ge
              obtain ⟨gl2, cap2, dy, hlv2, hdy, hdyO, hrg2, hgl2⟩ := hIx.ev hym
              injection hlv2 with e1 _ e3
              injection e1 with e1
              injection e1 with e1 _
              subst e1 e3
              rw [← dat_at hym] at hdyO
              have hdy2 := HLTS.out dy (List.mem_of_getElem? hdy)
              obtain ⟨ay, cy, rfl⟩ := owns_slice' hdyO
              have hdyO' := hdyO
              rw [hyk] at hrg2 hdyO' hdy2
              obtain ⟨gy, hay⟩ := own_at hdyO' (by omega)
              subst hay
              have hgy := hdy2 gy rfl
              have F1 := hrg2 3 _ rfl
              obtain ⟨gl3, cap3, df, hlv3, hdf, hdfO, _, _⟩ := hIx.ev hlt
              rw [hdv] at hdf
              injection hdf with hdf
              subst hdf
              rw [← HEV.out, ← HFD.out] at hdfO
              rw [← HFD.out] at hdv
              obtain ⟨gf, haf⟩ := own_at hdfO (by omega)
              subst haf
              have hgf := HLTS.out _ (List.mem_of_getElem? hdv) gf rfl
              have F4 := hdfO.cell y.2 hyp
              obtain ⟨fb, hfb⟩ : ∃ fb, fb = fd[y.2] := ⟨_, rfl⟩
              rw [← hfb] at F4
              have hfb2 : fd.getD y.2 0 = fb := by rw [List.getD_eq_getElem?_getD, List.getElem?_eq_getElem hyp, hfb]; rfl
              rw [hfb2] at hsucc
              have HSU := Lib.hid hsucc
              unfold B at F4
              obtain ⟨gm, ham, _⟩ := ints_at hPx.mine (by omega)
              subst ham
              have F5 : wr.cell? ⟨gm, x, none⟩ = some (.int .i64 y.1) := ints_cell hPx.mine (by rw [List.getElem?_map, List.getElem?_eq_getElem hxl, hy]; rfl)
              have hrr : wr.rangeAt gy 0 ((dat r.log y.1).map B) := by rw [← hyk] at hdyO'; exact owns_range hdyO'
              have hty := rfTorn_any (w := wr.drew.drew) (c2 := cy) (ownsRow_keep (w' := wr.drew.drew) hPx.now (fun _ _ => rfl)) hPx.nlen (g2 := gy) (o2 := 0) (by show gy < wr.heap.size; omega) (rangeAt_of_heap hrr rfl) hyk (by omega) fb
              have HTY := Lib.hid hty
              have y0 : (0 : Int) ≤ (y.1 : Int) := by omega
              have y1 : (y.1 : Int) < (r.log.length : Int) := by omega
              have hlb := HLTB.out
              have hll := HLTL.out gl rfl
              have hlm := (World.ownsRow.lt hPx.mine gm rfl).2
              have hlp := (World.ownsRow.lt hPx.place gp rfl).2
              have hnm : gm ≠ g := fun e => hPx.ap1 (by rw [e]; rfl)
              have hnp : gp ≠ g := fun e => hPx.ap2 (by rw [e]; rfl)
              have hle : ge < wr.heap.size := Nat.lt_of_lt_of_le (lt_of_heap HEH.out) HKX.out.size
              have hS : ∀ wy, Keeps [g] wr wy → wy.cell? ⟨b, 1, none⟩ = some (.slice (some ⟨gl, 0, none⟩) r.log.length cl) ∧ wy.cell? ⟨gm, x, none⟩ = some (.int .i64 y.1) ∧ wy.cell? ⟨gl, y.1 * 5 + 3, none⟩ = some (.slice (some ⟨gy, 0, none⟩) 256 cy) ∧ wy.cell? ⟨ge, 3, none⟩ = some (.slice (some ⟨gf, 0, none⟩) fd.length cf) ∧ wy.cell? ⟨gp, x, none⟩ = some (.int .i64 y.2) ∧ wy.cell? ⟨gf, y.2, none⟩ = some (.int .u8 fb.toNat) := fun wy hk =>
                ⟨(World.cell?_of_block (w := wr) (w' := wy) (a := ⟨b, 1, none⟩) (hk.block b (by omega) (by simp; omega))).trans d1,
                 (World.cell?_of_block (w := wr) (w' := wy) (a := ⟨gm, x, none⟩) (hk.block gm hlm (by simpa using hnm))).trans F5,
                 (World.cell?_of_block (w := wr) (w' := wy) (a := ⟨gl, y.1 * 5 + 3, none⟩) (hk.block gl (by omega) (by simp; omega))).trans F1,
                 (World.cell?_of_block (w := wr) (w' := wy) (a := ⟨ge, 3, none⟩) (hk.block ge hle (by simpa using HGG.out))).trans F3,
                 (World.cell?_of_block (w := wr) (w' := wy) (a := ⟨gp, x, none⟩) (hk.block gp hlp (by simpa using hnp))).trans F2,
                 (World.cell?_of_block (w := wr) (w' := wy) (a := ⟨gf, y.2, none⟩) (hk.block gf (by omega) (by simp; omega))).trans F4⟩
              have HS := Lib.hid hS
              clear hy hyk hdy hdyO hdyO' hrg2 hsucc hIx hPx hS hlb hlm hll hlp hnm hnp hle hty hrr hfb hfb2 hdfO hgf hgy hdy2
              go_upto_region 25 with fail
              refine wp_region_held_drew (S := (fun wy => wy.cell? ⟨ge, 3, none⟩ = some (.slice (some ⟨gf, 0, none⟩) fd.length cf) ∧ wy.cell? ⟨gp, x, none⟩ = some (.int .i64 y.2))) (by kernel_rfl) ?_ (fun hHeld => ?_)
              · exact ⟨F3, F2⟩
              refine' wpAnyH_take (i := 0) (v := _) rfl (by kernel_rfl) (by kernel_rfl) (by kernel_rfl) (fun _ _ _ h => h) (Or.inl ⟨by rfl, ?_⟩) (by assumption) ?_
              rotate_left 1
              · (intro w0 hSw; (try dsimp only at hSw); go_split_ands; go_simp; (try with_reducible rfl))
              try simp only [Act.put, List.setIfInBounds_toArray, List.set_cons_zero, List.set_cons_succ, List.getElem_toArray, List.getElem_cons_zero, List.getElem_cons_succ]
              refine' wpAnyH_take (i := 1) (v := _) rfl (by kernel_rfl) (by kernel_rfl) (by kernel_rfl) (fun _ _ _ h => h) (Or.inl ⟨by rfl, ?_⟩) (by assumption) ?_
              rotate_left 1
              · (intro w0 hSw; (try dsimp only at hSw); go_split_ands; go_simp; (try with_reducible rfl))
              try simp only [Act.put, List.setIfInBounds_toArray, List.set_cons_zero, List.set_cons_succ, List.getElem_toArray, List.getElem_cons_zero, List.getElem_cons_succ]
              refine' wpAnyH_take (i := 2) (v := _) rfl (by kernel_rfl) (by kernel_rfl) (by kernel_rfl) (fun _ _ _ h => h) (Or.inl ⟨by rfl, ?_⟩) (by assumption) ?_
              rotate_left 1
              · (intro w0 hSw; (try dsimp only at hSw); go_split_ands; go_simp; (try with_reducible rfl))
              try simp only [Act.put, List.setIfInBounds_toArray, List.set_cons_zero, List.set_cons_succ, List.getElem_toArray, List.getElem_cons_zero, List.getElem_cons_succ]
              refine' wpAnyH_take (i := 3) (v := _) rfl (by kernel_rfl) (by kernel_rfl) (by kernel_rfl) (fun _ _ _ h => h) (Or.inl ⟨by rfl, ?_⟩) (by assumption) ?_
              rotate_left 1
              · (intro w0 hSw; (try dsimp only at hSw); go_split_ands; go_simp; (try with_reducible rfl))
              try simp only [Act.put, List.setIfInBounds_toArray, List.set_cons_zero, List.set_cons_succ, List.getElem_toArray, List.getElem_cons_zero, List.getElem_cons_succ]
              refine' wpAnyH_take (i := 4) (v := _) rfl (by kernel_rfl) (by kernel_rfl) (by kernel_rfl) (fun _ _ _ h => h) (Or.inl ⟨by rfl, ?_⟩) (by assumption) ?_
              rotate_left 1
              · (intro w0 hSw; (try dsimp only at hSw); go_split_ands; go_simp; (try with_reducible rfl))
              try simp only [Act.put, List.setIfInBounds_toArray, List.set_cons_zero, List.set_cons_succ, List.getElem_toArray, List.getElem_cons_zero, List.getElem_cons_succ]
              refine' wpAnyH_take (i := 5) (v := _) rfl (by kernel_rfl) (by kernel_rfl) (by kernel_rfl) (fun _ _ _ h => h) (Or.inl ⟨by rfl, ?_⟩) (by assumption) ?_
              rotate_left 1
              · (intro w0 hSw; (try dsimp only at hSw); go_split_ands; go_simp; (try with_reducible rfl))
              try simp only [Act.put, List.setIfInBounds_toArray, List.set_cons_zero, List.set_cons_succ, List.getElem_toArray, List.getElem_cons_zero, List.getElem_cons_succ]
              refine' wpAnyH_take (i := 6) (v := _) rfl (by kernel_rfl) (by kernel_rfl) (by kernel_rfl) (fun _ _ _ h => h) (Or.inl ⟨by rfl, ?_⟩) (by assumption) ?_
              rotate_left 1
              · (intro w0 hSw; (try dsimp only at hSw); go_split_ands; go_simp; (try with_reducible rfl))
              try simp only [Act.put, List.setIfInBounds_toArray, List.set_cons_zero, List.set_cons_succ, List.getElem_toArray, List.getElem_cons_zero, List.getElem_cons_succ]
              refine' wpAnyH_take (i := 7) (v := _) rfl (by kernel_rfl) (by kernel_rfl) (by kernel_rfl) (fun _ _ _ h => h) (Or.inl ⟨by rfl, ?_⟩) (by assumption) ?_
              rotate_left 1
              · (intro w0 hSw; (try dsimp only at hSw); go_split_ands; go_simp; (try with_reducible rfl))
              try simp only [Act.put, List.setIfInBounds_toArray, List.set_cons_zero, List.set_cons_succ, List.getElem_toArray, List.getElem_cons_zero, List.getElem_cons_succ]
              refine wpAnyH_done (by kernel_rfl) ?_ _
              go_upto_region 26 with fail
              refine wp_region_held_drew (S := (fun wy => wy.cell? ⟨b, 1, none⟩ = some (.slice (some ⟨gl, 0, none⟩) r.log.length cl) ∧ wy.cell? ⟨gm, x, none⟩ = some (.int .i64 y.1) ∧ wy.cell? ⟨gl, y.1 * 5 + 3, none⟩ = some (.slice (some ⟨gy, 0, none⟩) 256 cy) ∧ wy.cell? ⟨ge, 3, none⟩ = some (.slice (some ⟨gf, 0, none⟩) fd.length cf) ∧ wy.cell? ⟨gp, x, none⟩ = some (.int .i64 y.2) ∧ wy.cell? ⟨gf, y.2, none⟩ = some (.int .u8 fb.toNat))) (by kernel_rfl) ?_ (fun hHeld => ?_)
              · exact ⟨d1, F5, F1, F3, F2, F4⟩
              refine' wpAnyH_take (i := 0) (v := _) rfl (by kernel_rfl) (by kernel_rfl) (by kernel_rfl) (fun _ _ _ h => h) (Or.inl ⟨by rfl, ?_⟩) (by assumption) ?_
              rotate_left 1
              · (intro w0 hSw; (try dsimp only at hSw); go_split_ands; go_simp; (try with_reducible rfl))
              try simp only [Act.put, List.setIfInBounds_toArray, List.set_cons_zero, List.set_cons_succ, List.getElem_toArray, List.getElem_cons_zero, List.getElem_cons_succ]
              refine' wpAnyH_take (i := 1) (v := _) rfl (by kernel_rfl) (by kernel_rfl) (by kernel_rfl) (fun _ _ _ h => h) (Or.inl ⟨by rfl, ?_⟩) (by assumption) ?_
              rotate_left 1
              · (intro w0 hSw; (try dsimp only at hSw); go_split_ands; go_simp; (try with_reducible rfl))
              try simp only [Act.put, List.setIfInBounds_toArray, List.set_cons_zero, List.set_cons_succ, List.getElem_toArray, List.getElem_cons_zero, List.getElem_cons_succ]
              refine' wpAnyH_take (i := 2) (v := _) rfl (by kernel_rfl) (by kernel_rfl) (by kernel_rfl) (fun _ _ _ h => h) (Or.inl ⟨by rfl, ?_⟩) (by assumption) ?_
              rotate_left 1
              · (intro w0 hSw; (try dsimp only at hSw); go_split_ands; go_simp; (try with_reducible rfl))
              try simp only [Act.put, List.setIfInBounds_toArray, List.set_cons_zero, List.set_cons_succ, List.getElem_toArray, List.getElem_cons_zero, List.getElem_cons_succ]
              refine' wpAnyH_take (i := 3) (v := _) rfl (by kernel_rfl) (by kernel_rfl) (by kernel_rfl) (fun _ _ _ h => h) (Or.inl ⟨by rfl, ?_⟩) (by assumption) ?_
              rotate_left 1
              · (intro w0 hSw; (try dsimp only at hSw); go_split_ands; go_simp; (try with_reducible rfl))
              try simp only [Act.put, List.setIfInBounds_toArray, List.set_cons_zero, List.set_cons_succ, List.getElem_toArray, List.getElem_cons_zero, List.getElem_cons_succ]
              refine' wpAnyH_take (i := 4) (v := _) rfl (by kernel_rfl) (by kernel_rfl) (by kernel_rfl) (fun _ _ _ h => h) (Or.inl ⟨by rfl, ?_⟩) (by assumption) ?_
              rotate_left 1
              · (intro w0 hSw; (try dsimp only at hSw); go_split_ands; go_simp; (try with_reducible rfl))
              try simp only [Act.put, List.setIfInBounds_toArray, List.set_cons_zero, List.set_cons_succ, List.getElem_toArray, List.getElem_cons_zero, List.getElem_cons_succ]
              refine' wpAnyH_take (i := 5) (v := _) rfl (by kernel_rfl) (by kernel_rfl) (by kernel_rfl) (fun _ _ _ h => h) (Or.inl ⟨by rfl, ?_⟩) (by assumption) ?_
              rotate_left 1
              · (intro w0 hSw; (try dsimp only at hSw); go_split_ands; go_simp; (try with_reducible rfl))
              try simp only [Act.put, List.setIfInBounds_toArray, List.set_cons_zero, List.set_cons_succ, List.getElem_toArray, List.getElem_cons_zero, List.getElem_cons_succ]
              refine' wpAnyH_take (i := 6) (v := _) rfl (by kernel_rfl) (by kernel_rfl) (by kernel_rfl) (fun _ _ _ h => h) (Or.inl ⟨by rfl, ?_⟩) (by assumption) ?_
              rotate_left 1
              · (intro w0 hSw; (try dsimp only at hSw); go_split_ands; go_simp; (try with_reducible rfl))
              try simp only [Act.put, List.setIfInBounds_toArray, List.set_cons_zero, List.set_cons_succ, List.getElem_toArray, List.getElem_cons_zero, List.getElem_cons_succ]
              refine' wpAnyH_take (i := 7) (v := _) rfl (by kernel_rfl) (by kernel_rfl) (by kernel_rfl) (fun _ _ _ h => h) (Or.inl ⟨by rfl, ?_⟩) (by assumption) ?_
              rotate_left 1
              · (intro w0 hSw; (try dsimp only at hSw); go_split_ands; go_simp; (try with_reducible rfl))
              try simp only [Act.put, List.setIfInBounds_toArray, List.set_cons_zero, List.set_cons_succ, List.getElem_toArray, List.getElem_cons_zero, List.getElem_cons_succ]
              refine' wpAnyH_take (i := 8) (v := _) rfl (by kernel_rfl) (by kernel_rfl) (by kernel_rfl) (fun _ _ _ h => h) (Or.inl ⟨by rfl, ?_⟩) (by assumption) ?_
              rotate_left 1
              · (intro w0 hSw; (try dsimp only at hSw); go_split_ands; go_simp; (try with_reducible rfl))
              try simp only [Act.put, List.setIfInBounds_toArray, List.set_cons_zero, List.set_cons_succ, List.getElem_toArray, List.getElem_cons_zero, List.getElem_cons_succ]
              refine' wpAnyH_take (i := 9) (v := _) rfl (by kernel_rfl) (by kernel_rfl) (by kernel_rfl) (fun _ _ _ h => h) (Or.inl ⟨by rfl, ?_⟩) (by assumption) ?_
              rotate_left 1
              · (intro w0 hSw; (try dsimp only at hSw); go_split_ands; go_simp; (try with_reducible rfl))
              try simp only [Act.put, List.setIfInBounds_toArray, List.set_cons_zero, List.set_cons_succ, List.getElem_toArray, List.getElem_cons_zero, List.getElem_cons_succ]
              refine' wpAnyH_take (i := 10) (v := _) rfl (by kernel_rfl) (by kernel_rfl) (by kernel_rfl) (fun _ _ _ h => h) (Or.inl ⟨by rfl, ?_⟩) (by assumption) ?_
              rotate_left 1
              · (intro w0 hSw; (try dsimp only at hSw); go_split_ands; go_simp; (try with_reducible rfl))
              try simp only [Act.put, List.setIfInBounds_toArray, List.set_cons_zero, List.set_cons_succ, List.getElem_toArray, List.getElem_cons_zero, List.getElem_cons_succ]
              refine' wpAnyH_take (i := 11) (v := _) rfl (by kernel_rfl) (by kernel_rfl) (by kernel_rfl) (fun _ _ _ h => h) (Or.inl ⟨by rfl, ?_⟩) (by assumption) ?_
              rotate_left 1
              · (intro w0 hSw; (try dsimp only at hSw); go_split_ands; go_simp; (try with_reducible rfl))
              try simp only [Act.put, List.setIfInBounds_toArray, List.set_cons_zero, List.set_cons_succ, List.getElem_toArray, List.getElem_cons_zero, List.getElem_cons_succ]
              refine' wpAnyH_take (i := 12) (v := _) rfl (by kernel_rfl) (by kernel_rfl) (by kernel_rfl) (fun _ _ _ h => h) (Or.inl ⟨by rfl, ?_⟩) (by assumption) ?_
              rotate_left 1
              · (intro w0 hSw; (try dsimp only at hSw); go_split_ands; go_simp; (try with_reducible rfl))
              try simp only [Act.put, List.setIfInBounds_toArray, List.set_cons_zero, List.set_cons_succ, List.getElem_toArray, List.getElem_cons_zero, List.getElem_cons_succ]
              refine' wpAnyH_take (i := 13) (v := _) rfl (by kernel_rfl) (by kernel_rfl) (by kernel_rfl) (fun _ _ _ h => h) (Or.inl ⟨by rfl, ?_⟩) (by assumption) ?_
              rotate_left 1
              · (intro w0 hSw; (try dsimp only at hSw); go_split_ands; go_simp; (try with_reducible rfl))
              try simp only [Act.put, List.setIfInBounds_toArray, List.set_cons_zero, List.set_cons_succ, List.getElem_toArray, List.getElem_cons_zero, List.getElem_cons_succ]
              refine' wpAnyH_take (i := 14) (v := _) rfl (by kernel_rfl) (by kernel_rfl) (by kernel_rfl) (fun _ _ _ h => h) (Or.inl ⟨by rfl, ?_⟩) (by assumption) ?_
              rotate_left 1
              · (intro w0 hSw; (try dsimp only at hSw); go_split_ands; go_simp; (try with_reducible rfl))
              try simp only [Act.put, List.setIfInBounds_toArray, List.set_cons_zero, List.set_cons_succ, List.getElem_toArray, List.getElem_cons_zero, List.getElem_cons_succ]
              refine' wpAnyH_take (i := 15) (v := _) rfl (by kernel_rfl) (by kernel_rfl) (by kernel_rfl) (fun _ _ _ h => h) (Or.inl ⟨by rfl, ?_⟩) (by assumption) ?_
              rotate_left 1
              · (intro w0 hSw; (try dsimp only at hSw); go_split_ands; go_simp; (try with_reducible rfl))
              try simp only [Act.put, List.setIfInBounds_toArray, List.set_cons_zero, List.set_cons_succ, List.getElem_toArray, List.getElem_cons_zero, List.getElem_cons_succ]
              refine' wpAnyH_take (i := 16) (v := _) rfl (by kernel_rfl) (by kernel_rfl) (by kernel_rfl) (fun _ _ _ h => h) (Or.inl ⟨by rfl, ?_⟩) (by assumption) ?_
              rotate_left 1
              · (intro w0 hSw; (try dsimp only at hSw); go_split_ands; go_simp; (try with_reducible rfl))
              try simp only [Act.put, List.setIfInBounds_toArray, List.set_cons_zero, List.set_cons_succ, List.getElem_toArray, List.getElem_cons_zero, List.getElem_cons_succ]
              refine' wpAnyH_take (i := 17) (v := _) rfl (by kernel_rfl) (by kernel_rfl) (by kernel_rfl) (fun _ _ _ h => h) (Or.inl ⟨by rfl, ?_⟩) (by assumption) ?_
              rotate_left 1
              · (intro w0 hSw; (try dsimp only at hSw); go_split_ands; go_simp; (try with_reducible rfl))
              try simp only [Act.put, List.setIfInBounds_toArray, List.set_cons_zero, List.set_cons_succ, List.getElem_toArray, List.getElem_cons_zero, List.getElem_cons_succ]
              refine' wpAnyH_take (i := 18) (v := _) rfl (by kernel_rfl) (by kernel_rfl) (by kernel_rfl) (fun _ _ _ h => h) (Or.inl ⟨by rfl, ?_⟩) (by assumption) ?_
              rotate_left 1
              · (intro w0 hSw; (try dsimp only at hSw); go_split_ands; go_simp; (try with_reducible rfl))
              try simp only [Act.put, List.setIfInBounds_toArray, List.set_cons_zero, List.set_cons_succ, List.getElem_toArray, List.getElem_cons_zero, List.getElem_cons_succ]
              refine' wpAnyH_take (i := 19) (v := _) rfl (by kernel_rfl) (by kernel_rfl) (by kernel_rfl) (fun _ _ _ h => h) (Or.inl ⟨by rfl, ?_⟩) (by assumption) ?_
              rotate_left 1
              · (intro w0 hSw; (try dsimp only at hSw); go_split_ands; go_simp; (try with_reducible rfl))
              try simp only [Act.put, List.setIfInBounds_toArray, List.set_cons_zero, List.set_cons_succ, List.getElem_toArray, List.getElem_cons_zero, List.getElem_cons_succ]
              refine wpAnyH_ready (rs := [20]) (by kernel_rfl) (by simp) ?_
              refine AllReadyH.cons rfl (fun K hK => ?_) AllReadyH.nil
              go_simp
              refine HTY.out.mono ?_
              rintro e w4 ⟨rfl, hO4, hk4⟩
              have hkx : Keeps [g] wr w4 := ((Keeps.refl [g] wr).drew.drew).trans (G := [g]) hk4 (by simp)
              have hP4 := HPX.out.setNow hkx hO4 (by rw [tearRow_length]; exact HPX.out.nlen)
              have HP4 := Lib.hid hP4
              have HKY := Lib.hid (HKX.out.trans (G := [g]) hkx (by simp))
              refine hK.out _ _ ?_ (fun hHeld => ?_)
              · exact HS.out w4 hkx
              clear hK K
              try simp only [Act.put, List.setIfInBounds_toArray, List.set_cons_zero, List.set_cons_succ, List.getElem_toArray, List.getElem_cons_zero, List.getElem_cons_succ]
              refine' wpAnyH_take (i := 21) (v := _) rfl (by kernel_rfl) (by kernel_rfl) (by kernel_rfl) (fun _ _ _ h => h) (Or.inl ⟨by rfl, ?_⟩) (by assumption) ?_
              rotate_left 1
              · (intro w0 hSw; (try dsimp only at hSw); go_split_ands; go_simp; (try with_reducible rfl))
              try simp only [Act.put, List.setIfInBounds_toArray, List.set_cons_zero, List.set_cons_succ, List.getElem_toArray, List.getElem_cons_zero, List.getElem_cons_succ]
              refine wpAnyH_done (by kernel_rfl) ?_ _
              clear hP4 hO4 hk4 hkx
              go_wp2_with fail
              go_roundw
              case rel => exact ⟨x + 1, by omega, rfl, by go_num, by rw [HSU.out]; exact HP4.out, HKY.out⟩
              case measure => simp [intOf]; omega
            · rw [if_neg hyp] at hsucc
              have HSU := Lib.hid hsucc
              have p1 : ¬ (y.2 : Int) < (fd.length : Int) := by omega
              clear hy hyk hsucc hIx hPx
              go_upto_region 25 with fail
              refine wp_region_held_drew (S := (fun wy => wy.cell? ⟨ge, 3, none⟩ = some (.slice af fd.length cf) ∧ wy.cell? ⟨gp, x, none⟩ = some (.int .i64 y.2))) (by kernel_rfl) ?_ (fun hHeld => ?_)
              · exact ⟨F3, F2⟩
              refine' wpAnyH_take (i := 0) (v := _) rfl (by kernel_rfl) (by kernel_rfl) (by kernel_rfl) (fun _ _ _ h => h) (Or.inl ⟨by rfl, ?_⟩) (by assumption) ?_
              rotate_left 1
              · (intro w0 hSw; (try dsimp only at hSw); go_split_ands; go_simp; (try with_reducible rfl))
              try simp only [Act.put, List.setIfInBounds_toArray, List.set_cons_zero, List.set_cons_succ, List.getElem_toArray, List.getElem_cons_zero, List.getElem_cons_succ]
              refine' wpAnyH_take (i := 1) (v := _) rfl (by kernel_rfl) (by kernel_rfl) (by kernel_rfl) (fun _ _ _ h => h) (Or.inl ⟨by rfl, ?_⟩) (by assumption) ?_
              rotate_left 1
              · (intro w0 hSw; (try dsimp only at hSw); go_split_ands; go_simp; (try with_reducible rfl))
              try simp only [Act.put, List.setIfInBounds_toArray, List.set_cons_zero, List.set_cons_succ, List.getElem_toArray, List.getElem_cons_zero, List.getElem_cons_succ]
              refine' wpAnyH_take (i := 2) (v := _) rfl (by kernel_rfl) (by kernel_rfl) (by kernel_rfl) (fun _ _ _ h => h) (Or.inl ⟨by rfl, ?_⟩) (by assumption) ?_
              rotate_left 1
              · (intro w0 hSw; (try dsimp only at hSw); go_split_ands; go_simp; (try with_reducible rfl))
              try simp only [Act.put, List.setIfInBounds_toArray, List.set_cons_zero, List.set_cons_succ, List.getElem_toArray, List.getElem_cons_zero, List.getElem_cons_succ]
              refine' wpAnyH_take (i := 3) (v := _) rfl (by kernel_rfl) (by kernel_rfl) (by kernel_rfl) (fun _ _ _ h => h) (Or.inl ⟨by rfl, ?_⟩) (by assumption) ?_
              rotate_left 1
              · (intro w0 hSw; (try dsimp only at hSw); go_split_ands; go_simp; (try with_reducible rfl))
              try simp only [Act.put, List.setIfInBounds_toArray, List.set_cons_zero, List.set_cons_succ, List.getElem_toArray, List.getElem_cons_zero, List.getElem_cons_succ]
              refine' wpAnyH_take (i := 4) (v := _) rfl (by kernel_rfl) (by kernel_rfl) (by kernel_rfl) (fun _ _ _ h => h) (Or.inl ⟨by rfl, ?_⟩) (by assumption) ?_
              rotate_left 1
              · (intro w0 hSw; (try dsimp only at hSw); go_split_ands; go_simp; (try with_reducible rfl))
              try simp only [Act.put, List.setIfInBounds_toArray, List.set_cons_zero, List.set_cons_succ, List.getElem_toArray, List.getElem_cons_zero, List.getElem_cons_succ]
              refine' wpAnyH_take (i := 5) (v := _) rfl (by kernel_rfl) (by kernel_rfl) (by kernel_rfl) (fun _ _ _ h => h) (Or.inl ⟨by rfl, ?_⟩) (by assumption) ?_
              rotate_left 1
              · (intro w0 hSw; (try dsimp only at hSw); go_split_ands; go_simp; (try with_reducible rfl))
              try simp only [Act.put, List.setIfInBounds_toArray, List.set_cons_zero, List.set_cons_succ, List.getElem_toArray, List.getElem_cons_zero, List.getElem_cons_succ]
              refine' wpAnyH_take (i := 6) (v := _) rfl (by kernel_rfl) (by kernel_rfl) (by kernel_rfl) (fun _ _ _ h => h) (Or.inl ⟨by rfl, ?_⟩) (by assumption) ?_
              rotate_left 1
              · (intro w0 hSw; (try dsimp only at hSw); go_split_ands; go_simp; (try with_reducible rfl))
              try simp only [Act.put, List.setIfInBounds_toArray, List.set_cons_zero, List.set_cons_succ, List.getElem_toArray, List.getElem_cons_zero, List.getElem_cons_succ]
              refine' wpAnyH_take (i := 7) (v := _) rfl (by kernel_rfl) (by kernel_rfl) (by kernel_rfl) (fun _ _ _ h => h) (Or.inl ⟨by rfl, ?_⟩) (by assumption) ?_
              rotate_left 1
              · (intro w0 hSw; (try dsimp only at hSw); go_split_ands; go_simp; (try with_reducible rfl))
              try simp only [Act.put, List.setIfInBounds_toArray, List.set_cons_zero, List.set_cons_succ, List.getElem_toArray, List.getElem_cons_zero, List.getElem_cons_succ]
              refine wpAnyH_done (by kernel_rfl) ?_ _
              go_wp2_with fail
              go_roundw
              case rel => exact ⟨x + 1, by omega, rfl, by go_num, by rw [HSU.out]; exact HPX.out.drew, HKX.out.drew⟩
              case measure => simp [intOf]; omega
          · have e : x = ms.length := by omega
            subst e
            have hfk := HFITS.out k
            have hall := nowC_all (e := ev) HPM.out hfk hp HK.out
            rw [← HFD.out] at hall
            have HALL := Lib.hid hall
            clear hall hfk hIx hPx
            go_wp2_with fail
            go_roundw
            case rel =>
              refine ⟨k + 1, [], g, cap, _, _, by omega, rfl, rfl, rfl, ?_, by go_num, ?_, ?_⟩
              · rw [HSTEP.out, q_sync (.inr HK.out)]; rfl
              · rw [HSTEP.out, ← HALL.out]; exact HPX.out.clear
              · rw [HSTEP.out]; exact Pm.nil (q_sync (.inr HK.out))
            case measure => simp [intOf]; omega
      · rw [hk4] at E0
        simp only [show ((4 : Nat) : Int) = 4 from rfl] at E0
        have HK := Lib.hid hk4
        clear hk4 E3
        have hfk := HFITS.out k
        by_cases hpe : ev.page = p
        · rw [hpe] at E1
          have HPG := Lib.hid hpe
          have HT := Lib.hid (rfTurned_any HPE.out.now HPE.out.nlen ev.bit ev.pat hbt hpt)
          have HBT := Lib.hid hbt
          have HFK := Lib.hid hfk
          clear hpe hpg hbt hpt hfk
          go_wp2_with fail
          refine HT.out.mono ?_
          rintro e w4 ⟨rfl, hO4, hk4⟩
          have hP4 := HPE.out.setNow hk4 hO4 (by rw [flipK_length]; exact HPE.out.nlen)
          have HP4 := Lib.hid hP4
          clear hP4 hO4 hk4
          go_wp2_with fail
          go_roundw
          case rel =>
            refine ⟨k + 1, ms, g, cap, _, _, by omega, rfl, rfl, rfl, ?_, by go_num, ?_, ?_⟩
            · rw [HSTEP.out, q_flip HK.out, ← HNQ.out]
            · rw [HSTEP.out, img_flip HK.out, page_flip hp HFK.out.1 (by rw [HPG.out]; exact hp) _ (by have := HBT.out; omega), if_pos HPG.out]; exact HP4.out
            · rw [HSTEP.out, HEV.out]
              exact HPM.out.flip hlt (by rw [← HEV.out]; exact HK.out)
          case measure => simp [intOf]; omega
        · have hpi : ¬ (ev.page : Int) = (p : Int) := by omega
          have HPG := Lib.hid hpe
          have HPGL := Lib.hid hpg
          have HBT := Lib.hid hbt
          have HFK := Lib.hid hfk
          clear hpe hpg hbt hpt hfk
          go_wp2_with fail
          go_roundw
          case rel =>
            refine ⟨k + 1, ms, g, cap, _, _, by omega, rfl, rfl, rfl, ?_, by go_num, ?_, ?_⟩
            · rw [HSTEP.out, q_flip HK.out, ← HNQ.out]
            · rw [HSTEP.out, img_flip HK.out, page_flip hp HFK.out.1 HPGL.out _ (by have := HBT.out; omega), if_neg HPG.out]; exact HPE.out
            · rw [HSTEP.out, HEV.out]
              exact HPM.out.flip hlt (by rw [← HEV.out]; exact HK.out)
          case measure => simp [intOf]; omega
    · have k1 : ¬ (k : Int) < (r.log.length : Int) := by omega
      have e : k = r.log.length := by omega
      have hall := r.playN_all
      rw [← e] at hall
      rw [hall] at HPD HPM
      have HE := Lib.hid e
      clear e hall
      by_cases h1 : ms = []
      · have hz : pgRead r p = pg r.play.img p := pgRead_none (by rw [← HPM.out.eq, h1]; rfl)
        have HZ := Lib.hid hz
        subst h1
        clear hz
        have m1 : ¬ (0 : Int) > 0 := by omega
        go_wp2_with fail
        go_ret2
        exact ⟨g, cap, g, cap, rfl, HPD.out.ge, HPD.out.now, HPD.out.ge, by rw [HZ.out]; exact HPD.out.now, HPD.out.keeps⟩
      · have h0 : 0 < ms.length := List.length_pos_iff.2 h1
        obtain ⟨M, hM⟩ : ∃ M, M = ms.length - 1 := ⟨_, rfl⟩
        have hMl : M < ms.length := by omega
        obtain ⟨y, hy⟩ : ∃ y, y = ms[M] := ⟨_, rfl⟩
        have hz : pgRead r p = dat r.log y.1 := pgRead_some (x := (y.2, dat r.log y.1)) (by rw [← HPM.out.eq, List.getLast?_map, List.getLast?_eq_getElem?, ← hM, List.getElem?_eq_getElem hMl, hy]; rfl)
        have HZ := Lib.hid hz
        have hym := HPM.out.lt y (by rw [hy]; exact List.getElem_mem hMl)
        have hyk := HPM.out.kind y (by rw [hy]; exact List.getElem_mem hMl)
        obtain ⟨gl2, cap2, dy, hlv2, hdy, hdyO, hrg2, hgl2⟩ := hIw.ev hym
        injection hlv2 with e1 _ e3
        subst e1 e3
        rw [← dat_at hym] at hdyO
        obtain ⟨ay, cy, rfl⟩ := owns_slice' hdyO
        rw [hyk] at hrg2
        have F1 := hrg2 3 _ rfl
        obtain ⟨gm, ham, _⟩ := ints_at HPD.out.mine (by omega)
        subst ham
        have F2 : wr.cell? ⟨gm, M, none⟩ = some (.int .i64 y.1) := ints_cell HPD.out.mine (by rw [List.getElem?_map, List.getElem?_eq_getElem hMl, hy]; rfl)
        have cp1 := rfCopied_any (w := wr.drew) (l := dat r.log y.1) (ownB_bytes (ownsRow_keep (w' := wr.drew) hdyO (fun _ _ => rfl))) (by rw [hyk]; omega)
        rw [hyk] at cp1
        have CP := Lib.hid cp1
        have hlb := lt_of_heap hIw.root
        have hlm := (World.ownsRow.lt HPD.out.mine gm rfl).2
        have hS : ∀ wy, Keeps [] wr wy → wy.cell? ⟨b, 1, none⟩ = some (.slice (some ⟨gl2, 0, none⟩) r.log.length cl) ∧ wy.cell? ⟨gm, M, none⟩ = some (.int .i64 y.1) ∧ wy.cell? ⟨gl2, y.1 * 5 + 3, none⟩ = some (.slice ay 256 cy) := fun wy hk =>
          ⟨(World.cell?_of_block (w := wr) (w' := wy) (a := ⟨b, 1, none⟩) (hk.block b hlb (by simp))).trans d1, (World.cell?_of_block (w := wr) (w' := wy) (a := ⟨gm, M, none⟩) (hk.block gm hlm (by simp))).trans F2, (World.cell?_of_block (w := wr) (w' := wy) (a := ⟨gl2, y.1 * 5 + 3, none⟩) (hk.block gl2 hgl2 (by simp))).trans F1⟩
        have HS := Lib.hid hS
        have m1 : (ms.length : Int) > 0 := by omega
        have m2 : (ms.length : Int) - 1 = (M : Int) := by omega
        have m3 : (M : Int) < (ms.length : Int) := by omega
        have m4 : (0 : Int) ≤ (M : Int) := by omega
        have m5 : IntKind.i64.wrap (M : Int) = (M : Int) := IntWalk.i64_in _ (by omega)
        have m6 : IntKind.i64.wrap ((ms.length : Int) - 1) = (M : Int) := by rw [m2]; exact m5
        have y0 : (0 : Int) ≤ (y.1 : Int) := by omega
        have y1 : (y.1 : Int) < (r.log.length : Int) := by omega
        have HYK := Lib.hid hyk
        have HML := Lib.hid hMl
        clear hz hy hyk hdy hdyO hrg2 hIw hS hlb hlm cp1 h1 hM
        go_upto_region 33 with fail
        refine wp_region_held_drew (S := (fun wy => wy.cell? ⟨b, 1, none⟩ = some (.slice (some ⟨gl2, 0, none⟩) r.log.length cl) ∧ wy.cell? ⟨gm, M, none⟩ = some (.int .i64 y.1) ∧ wy.cell? ⟨gl2, y.1 * 5 + 3, none⟩ = some (.slice ay 256 cy))) (by kernel_rfl) ?_ (fun hHeld => ?_)
        · exact ⟨d1, F2, F1⟩
        refine' wpAnyH_take (i := 0) (v := _) rfl (by kernel_rfl) (by kernel_rfl) (by kernel_rfl) (fun _ _ _ h => h) (Or.inl ⟨by rfl, ?_⟩) (by assumption) ?_
        rotate_left 1
        · (intro w0 hSw; (try dsimp only at hSw); go_split_ands; go_simp; (try with_reducible rfl))
        try simp only [Act.put, List.setIfInBounds_toArray, List.set_cons_zero, List.set_cons_succ, List.getElem_toArray, List.getElem_cons_zero, List.getElem_cons_succ]
        refine' wpAnyH_take (i := 1) (v := _) rfl (by kernel_rfl) (by kernel_rfl) (by kernel_rfl) (fun _ _ _ h => h) (Or.inl ⟨by rfl, ?_⟩) (by assumption) ?_
        rotate_left 1
        · (intro w0 hSw; (try dsimp only at hSw); go_split_ands; go_simp; (try with_reducible rfl))
        try simp only [Act.put, List.setIfInBounds_toArray, List.set_cons_zero, List.set_cons_succ, List.getElem_toArray, List.getElem_cons_zero, List.getElem_cons_succ]
        refine' wpAnyH_take (i := 2) (v := _) rfl (by kernel_rfl) (by kernel_rfl) (by kernel_rfl) (fun _ _ _ h => h) (Or.inl ⟨by rfl, ?_⟩) (by assumption) ?_
        rotate_left 1
        · (intro w0 hSw; (try dsimp only at hSw); go_split_ands; go_simp; (try with_reducible rfl))
        try simp only [Act.put, List.setIfInBounds_toArray, List.set_cons_zero, List.set_cons_succ, List.getElem_toArray, List.getElem_cons_zero, List.getElem_cons_succ]
        refine' wpAnyH_take (i := 3) (v := _) rfl (by kernel_rfl) (by kernel_rfl) (by kernel_rfl) (fun _ _ _ h => h) (Or.inl ⟨by rfl, ?_⟩) (by assumption) ?_
        rotate_left 1
        · (intro w0 hSw; (try dsimp only at hSw); go_split_ands; go_simp; (try with_reducible rfl))
        try simp only [Act.put, List.setIfInBounds_toArray, List.set_cons_zero, List.set_cons_succ, List.getElem_toArray, List.getElem_cons_zero, List.getElem_cons_succ]
        refine' wpAnyH_take (i := 4) (v := _) rfl (by kernel_rfl) (by kernel_rfl) (by kernel_rfl) (fun _ _ _ h => h) (Or.inl ⟨by rfl, ?_⟩) (by assumption) ?_
        rotate_left 1
        · (intro w0 hSw; (try dsimp only at hSw); go_split_ands; go_simp; (try with_reducible rfl))
        try simp only [Act.put, List.setIfInBounds_toArray, List.set_cons_zero, List.set_cons_succ, List.getElem_toArray, List.getElem_cons_zero, List.getElem_cons_succ]
        refine' wpAnyH_take (i := 5) (v := _) rfl (by kernel_rfl) (by kernel_rfl) (by kernel_rfl) (fun _ _ _ h => h) (Or.inl ⟨by rfl, ?_⟩) (by assumption) ?_
        rotate_left 1
        · (intro w0 hSw; (try dsimp only at hSw); go_split_ands; go_simp; (try with_reducible rfl))
        try simp only [Act.put, List.setIfInBounds_toArray, List.set_cons_zero, List.set_cons_succ, List.getElem_toArray, List.getElem_cons_zero, List.getElem_cons_succ]
        refine' wpAnyH_take (i := 6) (v := _) rfl (by kernel_rfl) (by kernel_rfl) (by kernel_rfl) (fun _ _ _ h => h) (Or.inl ⟨by rfl, ?_⟩) (by assumption) ?_
        rotate_left 1
        · (intro w0 hSw; (try dsimp only at hSw); go_split_ands; go_simp; (try with_reducible rfl))
        try simp only [Act.put, List.setIfInBounds_toArray, List.set_cons_zero, List.set_cons_succ, List.getElem_toArray, List.getElem_cons_zero, List.getElem_cons_succ]
        refine' wpAnyH_take (i := 7) (v := _) rfl (by kernel_rfl) (by kernel_rfl) (by kernel_rfl) (fun _ _ _ h => h) (Or.inl ⟨by rfl, ?_⟩) (by assumption) ?_
        rotate_left 1
        · (intro w0 hSw; (try dsimp only at hSw); go_split_ands; go_simp; (try with_reducible rfl))
        try simp only [Act.put, List.setIfInBounds_toArray, List.set_cons_zero, List.set_cons_succ, List.getElem_toArray, List.getElem_cons_zero, List.getElem_cons_succ]
        refine' wpAnyH_take (i := 8) (v := _) rfl (by kernel_rfl) (by kernel_rfl) (by kernel_rfl) (fun _ _ _ h => h) (Or.inl ⟨by rfl, ?_⟩) (by assumption) ?_
        rotate_left 1
        · (intro w0 hSw; (try dsimp only at hSw); go_split_ands; go_simp; (try with_reducible rfl))
        try simp only [Act.put, List.setIfInBounds_toArray, List.set_cons_zero, List.set_cons_succ, List.getElem_toArray, List.getElem_cons_zero, List.getElem_cons_succ]
        refine' wpAnyH_take (i := 9) (v := _) rfl (by kernel_rfl) (by kernel_rfl) (by kernel_rfl) (fun _ _ _ h => h) (Or.inl ⟨by rfl, ?_⟩) (by assumption) ?_
        rotate_left 1
        · (intro w0 hSw; (try dsimp only at hSw); go_split_ands; go_simp; (try with_reducible rfl))
        try simp only [Act.put, List.setIfInBounds_toArray, List.set_cons_zero, List.set_cons_succ, List.getElem_toArray, List.getElem_cons_zero, List.getElem_cons_succ]
        refine' wpAnyH_take (i := 10) (v := _) rfl (by kernel_rfl) (by kernel_rfl) (by kernel_rfl) (fun _ _ _ h => h) (Or.inl ⟨by rfl, ?_⟩) (by assumption) ?_
        rotate_left 1
        · (intro w0 hSw; (try dsimp only at hSw); go_split_ands; go_simp; (try with_reducible rfl))
        try simp only [Act.put, List.setIfInBounds_toArray, List.set_cons_zero, List.set_cons_succ, List.getElem_toArray, List.getElem_cons_zero, List.getElem_cons_succ]
        refine' wpAnyH_take (i := 11) (v := _) rfl (by kernel_rfl) (by kernel_rfl) (by kernel_rfl) (fun _ _ _ h => h) (Or.inl ⟨by rfl, ?_⟩) (by assumption) ?_
        rotate_left 1
        · (intro w0 hSw; (try dsimp only at hSw); go_split_ands; go_simp; (try with_reducible rfl))
        try simp only [Act.put, List.setIfInBounds_toArray, List.set_cons_zero, List.set_cons_succ, List.getElem_toArray, List.getElem_cons_zero, List.getElem_cons_succ]
        refine' wpAnyH_take (i := 12) (v := _) rfl (by kernel_rfl) (by kernel_rfl) (by kernel_rfl) (fun _ _ _ h => h) (Or.inl ⟨by rfl, ?_⟩) (by assumption) ?_
        rotate_left 1
        · (intro w0 hSw; (try dsimp only at hSw); go_split_ands; go_simp; (try with_reducible rfl))
        try simp only [Act.put, List.setIfInBounds_toArray, List.set_cons_zero, List.set_cons_succ, List.getElem_toArray, List.getElem_cons_zero, List.getElem_cons_succ]
        refine wpAnyH_ready (rs := [13]) (by kernel_rfl) (by simp) ?_
        refine AllReadyH.cons rfl (fun K hK => ?_) AllReadyH.nil
        go_simp
        refine CP.out.mono ?_
        rintro e w4 ⟨a4, c4, rfl, hO4, hf4, hk4⟩
        obtain ⟨g4, rfl⟩ := own_at hO4 (by omega)
        have hkx : Keeps [] wr w4 := ((Keeps.refl [] wr).drew).trans (G := []) hk4 (by simp)
        have HPF := Lib.hid (HPD.out.keep hkx)
        have HKF := Lib.hid (HPD.out.keeps.trans (G := []) hkx (by simp))
        have HO4 := Lib.hid hO4
        have hge4 : w.heap.size ≤ g4 := by
          have h1 := hf4 g4 rfl
          have h2 := HPD.out.keeps.size
          have h3 : wr.heap.size ≤ g4 := by simpa using h1
          omega
        have HF4 := Lib.hid hge4
        clear hge4
        refine hK.out _ _ ?_ (fun hHeld => ?_)
        · exact HS.out w4 hkx
        clear hK K
        try simp only [Act.put, List.setIfInBounds_toArray, List.set_cons_zero, List.set_cons_succ, List.getElem_toArray, List.getElem_cons_zero, List.getElem_cons_succ]
        refine' wpAnyH_take (i := 14) (v := _) rfl (by kernel_rfl) (by kernel_rfl) (by kernel_rfl) (fun _ _ _ h => h) (Or.inl ⟨by rfl, ?_⟩) (by assumption) ?_
        rotate_left 1
        · (intro w0 hSw; (try dsimp only at hSw); go_split_ands; go_simp; (try with_reducible rfl))
        try simp only [Act.put, List.setIfInBounds_toArray, List.set_cons_zero, List.set_cons_succ, List.getElem_toArray, List.getElem_cons_zero, List.getElem_cons_succ]
        refine wpAnyH_done (by kernel_rfl) ?_ _
        clear hO4 hf4 hk4 hkx
        go_wp2_with fail
        go_ret2
        exact ⟨g, cap, g4, c4, rfl, HPD.out.ge, HPF.out.now, HF4.out, by rw [HZ.out]; exact HO4.out, HKF.out⟩
end Go.Proofs.Ytbjffjplpnnhoaa
