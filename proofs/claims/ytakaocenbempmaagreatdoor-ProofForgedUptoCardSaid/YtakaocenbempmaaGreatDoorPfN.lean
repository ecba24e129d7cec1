/-
  Lemmas of a claim, bundle N: XFrC XShC XShD XFiA XFiB XFiC XFiD.
-/
import Derived.Lib.BufferWrite
import Derived.Test.YtakaocenbempmaaGreatDoorPfG
import Derived.Test.YtakaocenbempmaaGreatDoorPfC
import Derived.Test.YtakaocenbempmaaGreatDoorPfL
import Derived.Test.YtakaocenbempmaaGreatDoorPfM
set_option linter.unusedVariables false
set_option linter.unusedSimpArgs false
namespace Go.Proofs.YtakaocenbempmaaGreatDoor
open Go.RowKit
theorem run_copy_letters {w:World} {g:Nat} {ty:TypeId} {l:List UInt8} (h:Blk w g ty l) (n c:Nat) (hl:4≤l.length) (hn:4≤n) (t:TypeId) :
  (Builtin.copy_ #[36,9] t #[.slice (some ⟨g,0,none⟩) n c,.string ⟨#[76,68,71,49]⟩]).run Tryz.prog w=.ok (.int .i64 4) (w.setRow g ((over l 0 [76,68,71,49]).map B).toArray):=by
 have:=Lib.run_copy_row_string (P:=Tryz.prog) w 36 9 t 5 g 0 n c ⟨#[76,68,71,49]⟩ _ ty Tryz.underlying36 (by kernel_rfl) h hn (by show 0+4≤_;simp;exact hl)
 have e:(l.map B).toArray.toList.take 0++Lib.byteCells [76,68,71,49]++(l.map B).toArray.toList.drop (0+4)=(over l 0 [76,68,71,49]).map B:=by simp [over,Lib.byteCells,B]
 rw [← e]
 exact this
theorem Blk.setRow {w:World} {g:Nat} {ty:TypeId} {l:List UInt8} (h:Blk w g ty l) (l':List UInt8):Blk (w.setRow g (l'.map B).toArray) g ty l':=setRow_heap w g _ _ _ _ h
theorem Keeps.setRow {F:List Nat} {a w:World} (h:Keeps F a w) {g:Nat} (hp:g∈F∨a.heap.size≤g) (cs:Array Value):Keeps F a (w.setRow g cs) :=
 ⟨h.os,h.tape,h.output,by simpa using h.size,fun k hk hn=>(setRow_other w g k _ (fun e=>by subst e;exact hp.elim hn (fun hle=>by omega))).trans (h.block k hk hn)⟩
theorem run_copy_blk {W:World} {g o n m c1 c2:Nat} {a:Option Addr} {t:TypeId} {img l:List UInt8} (hp:Blk W g t img) (hs:BytesAt W (.slice a n c2) l) (h0:0 < n) (hl:l.length=n) (hm:n≤m) (ho:o+n≤img.length) (ty:TypeId) :
  (Builtin.copy_ #[36,36] ty #[.slice (some ⟨g,o,none⟩) m c1,.slice a n c2]).run Tryz.prog W=.ok (.int .i64 n) (W.setRow g ((over img o l).map B).toArray):=by
 subst hl
 obtain ⟨go,so,rfl,_,hr⟩:=hs.at h0
 have:=run_copy_row (P:=Tryz.prog) W 36 36 ty 5 g o m c1 ⟨go,so,none⟩ l.length c2 (img.map B).toArray t (l.map B) Tryz.underlying36 (by kernel_rfl) hp (by rw [List.length_map];exact (Nat.min_eq_left hm).symm)
  (fun j v hv=>by rw [Addr.add_mid];exact hr j v hv) (by simp;omega) (B_one l)
 rw [this]
 simp [goInt,over]
theorem blk_all {w:World} {g:Nat} {t:TypeId} {l:List UInt8} (h:Blk w g t l) {n:Nat} (hn:l.length=n) (c:Nat) (hc:n≤c) (hm:c≤maxLen):BytesAt w (.slice (some ⟨g,0,none⟩) l.length c) l:=by
 refine .inr ⟨g,0,c,rfl,by omega,hm,h.lt,fun j u hj=>?_⟩
 rw [cell_of_row w g _ _ _ _ h,Nat.zero_add]
 simpa using hj
theorem make_bytes (w:World) (m:Nat) (hm:m≤33554432) :
  (Instr.makeSlice 36 (.int .i64 m) (.int .i64 m)).run Tryz.prog w=.ok (.slice (some ⟨w.heap.size,0,none⟩) m m) (w.alloc (.cells ((List.replicate m (0:UInt8)).map B).toArray 5 (0,0))):=by
 obtain ⟨i0,hi,hz0,hz1,hz2⟩:=info_parts info_u8
 have hmk:=run_make (P:=Tryz.prog) w 36 5 i0 _ Tryz.underlying36 hi hz0 .i64 .i64 (m:Int) (m:Int) (by omega) (by omega) (by rw [hz2];omega) (by omega)
 have hz:madeCells (Value.int .u8 0).cells (Int.toNat (m:Int) * i0.size)=(((List.replicate m (0:UInt8))).map B).toArray:=by
  rw [hz1,show (Value.int .u8 0).cells=Array.replicate 1 (.int .u8 0) from rfl,madeCells_same 1 _ _ (by omega)]
  simp only [List.map_replicate,Nat.mul_one,Int.toNat_natCast]
  rfl
 rw [hz] at hmk
 simp only [Int.toNat_natCast] at hmk
 exact hmk
theorem make_page (w:World):∃ w',(Instr.makeSlice 36 (.int .i64 256) (.int .i64 256)).run Tryz.prog w=.ok (.slice (some ⟨w.heap.size,0,none⟩) 256 256) w'∧Blk w' w.heap.size 5 (List.replicate 256 (0:UInt8))∧Keeps [] w w' :=
 ⟨_,make_bytes w 256 (by omega),heap_new_at rfl,(Keeps.refl _ _).alloc _⟩
set_option maxRecDepth 100000 in
set_option maxHeartbeats 800000 in
theorem packSuper_any {w:World} {s:Sup} (hs:s.valid=true) :
  Calls Tryz.prog 69 #[supV s] w fun e w'=>∃ g,e=.returned (.tuple #[.slice (some ⟨g,0,none⟩) 256 256,.int .i64 0])∧Blk w' g 5 (supL s)∧w.heap.size≤g∧Keeps [] w w':=by
 obtain ⟨g,hg⟩:∃ g,g=w.heap.size:=⟨_,rfl⟩
 have CV:∀ w',Hid (Calls Tryz.prog 92 #[supV s] w' fun e w''=>e=.returned (.bool true)∧Keeps [] w' w''):=fun w'=>Lib.hid (hs ▸ valid_any s)
 have HS:=Lib.hid hs
 clear hs
 obtain ⟨W,G,M,H,P⟩:=s
 unfold supV at CV ⊢
 dsimp only at CV ⊢
 have hvs:=HS.out
 unfold Sup.valid at hvs
 simp only [Bool.and_eq_true,Bool.or_eq_true,decide_eq_true_eq] at hvs
 obtain ⟨⟨⟨⟨⟨⟨⟨⟨b1,b2⟩,b3⟩,b4⟩,b5⟩,b6⟩,b7⟩,b8⟩,b9⟩:=hvs
 obtain ⟨W,rfl⟩:=Int.eq_ofNat_of_zero_le (show 0≤W by omega)
 obtain ⟨G,rfl⟩:=Int.eq_ofNat_of_zero_le (show 0≤G by omega)
 obtain ⟨M,rfl⟩:=Int.eq_ofNat_of_zero_le (show 0≤M by omega)
 obtain ⟨H,rfl⟩:=Int.eq_ofNat_of_zero_le (show 0≤H by omega)
 obtain ⟨P,rfl⟩:=Int.eq_ofNat_of_zero_le (show 0≤P by omega)
 have n1:W≤32:=by omega
 have n2:G≤1099511627776:=by omega
 have n3:P≤4096:=by omega
 have n4:M≤P:=by omega
 have n5:H < 4096:=by omega
 clear b1 b2 b3 b4 b5 b6 b7 b8 b9
 have w0:(W:Int) % 256=(W:Int):=by omega
 obtain ⟨w1,hw1⟩:∃ w1,w1=w.alloc (.cells #[.int .i64 W,.int .i64 G,.int .i64 M,.int .i64 H,.int .i64 P] 42 (0,0)):=⟨_,rfl⟩
 have hk1:Keeps [] w w1:=by rw [hw1];exact (Keeps.refl _ _).alloc _
 have hbk:w1.heap[g]?=some (.cells #[.int .i64 W,.int .i64 G,.int .i64 M,.int .i64 H,.int .i64 P] 42 (0,0)):=by rw [hw1];exact heap_new_at hg
 have HK:=Lib.hid hk1
 have HW:=Lib.hid hw1
 have HG:=Lib.hid hg
 have hfield:∀ wx,Keeps [] w1 wx→wx.cell? ⟨g,0,none⟩=some (.int .i64 W)∧wx.cell? ⟨g,1,none⟩=some (.int .i64 G)∧wx.cell? ⟨g,2,none⟩=some (.int .i64 M)∧wx.cell? ⟨g,3,none⟩=some (.int .i64 H)∧wx.cell? ⟨g,4,none⟩=some (.int .i64 P):=fun wx hk=>by
  have h:=(hk.block g (lt_of_heap hbk) (by simp)).trans hbk
  refine ⟨?_,?_,?_,?_,?_⟩ <;> rw [cell_of_row wx g _ _ _ _ h] <;> rfl
 have HF:=Lib.hid hfield
 obtain ⟨e0,e1,e2,e3,e4⟩:=hfield w1 (Keeps.refl _ _)
 clear hk1 hw1 hg hbk hfield
 go_enter Tryz.func69,Tryz.ntmps69
 go_upto_region 1 with fail
 rw [← HW.out,← HG.out]
 go_upto_region 3 with (first | (go_at_call 92;refine (CV _).out.mono ?_;rintro e w2 ⟨rfl,hk2⟩))
 clear e0 e1 e2 e3 e4 CV
 have HK2:=Lib.hid hk2
 obtain ⟨g3,hg3⟩:∃ g3,g3=w2.heap.size:=⟨_,rfl⟩
 obtain ⟨w3,hw3⟩:∃ w3,w3=w2.alloc (.cells ((List.replicate 60 (0:UInt8)).map B).toArray 170 (0,0)):=⟨_,rfl⟩
 have hb3:Blk w3 g3 170 (List.replicate 60 (0:UInt8)):=by rw [hw3];exact heap_new_at hg3
 have hk3:Keeps [] w1 w3:=hk2.trans (G:=[]) (by rw [hw3];exact (Keeps.refl _ _).alloc _) (by simp)
 have HG3:=Lib.hid hg3
 have HW3:=Lib.hid hw3
 clear hk2 hg3 hw3
 have hw3e:w2.alloc (.cells #[.int .u8 0,.int .u8 0,.int .u8 0,.int .u8 0,.int .u8 0,.int .u8 0,.int .u8 0,.int .u8 0,.int .u8 0,.int .u8 0,.int .u8 0,.int .u8 0,.int .u8 0,.int .u8 0,.int .u8 0,.int .u8 0,.int .u8 0,.int .u8 0,.int .u8 0,.int .u8 0,.int .u8 0,.int .u8 0,.int .u8 0,.int .u8 0,.int .u8 0,.int .u8 0,.int .u8 0,.int .u8 0,.int .u8 0,.int .u8 0,.int .u8 0,.int .u8 0,.int .u8 0,.int .u8 0,.int .u8 0,.int .u8 0,.int .u8 0,.int .u8 0,.int .u8 0,.int .u8 0,.int .u8 0,.int .u8 0,.int .u8 0,.int .u8 0,.int .u8 0,.int .u8 0,.int .u8 0,.int .u8 0,.int .u8 0,.int .u8 0,.int .u8 0,.int .u8 0,.int .u8 0,.int .u8 0,.int .u8 0,.int .u8 0,.int .u8 0,.int .u8 0,.int .u8 0,.int .u8 0] 170 (0,0))=w3:=HW3.out.symm
 have HW3E:=Lib.hid hw3e
 have hcp:=run_copy_letters hb3 60 60 (by simp) (by omega) 3
 have HCP:=Lib.hid (run_builtin_copy hcp)
 have hb4:=hb3.setRow (over (List.replicate 60 (0:UInt8)) 0 [76,68,71,49])
 have hk4:=hk3.setRow (g:=g3) (by have:=HG3.out;have:=HK.out.size;have:=HK2.out.size;exact .inr (by omega)) ((over (List.replicate 60 (0:UInt8)) 0 [76,68,71,49]).map B).toArray
 clear hcp hw3e
 go_upto_region 4 with fail
 rw [HW3E.out,← HG3.out]
 go_upto_region 5 with (first | (refine wl_builtin rfl .copy #[.tmp 9,.const (.string ⟨#[76,68,71,49]⟩)] #[36,9] rfl ?_;simp only [List.map_toArray,List.map_cons,List.map_nil];refine ⟨_,_,HCP.out,?_⟩;try simp only [zA,zB,zC,zD,zE,zF,zG,zH]))
 obtain ⟨w4,hw4⟩:∃ w4,w4=w3.setRow g3 ((over (List.replicate 60 (0:UInt8)) 0 [76,68,71,49]).map B).toArray:=⟨_,rfl⟩
 rw [← hw4] at hb4 hk4 ⊢
 have l4:(over (List.replicate 60 (0:UInt8)) 0 [76,68,71,49]).length=60:=by rw [over_length (by simp)];simp
 obtain ⟨I4,hI4⟩:∃ I,I=over (List.replicate 60 (0:UInt8)) 0 [76,68,71,49]:=⟨_,rfl⟩
 rw [← hI4] at hb4 l4
 have HI4:=Lib.hid hI4
 obtain ⟨e0,e1,e2,e3,e4⟩:=HF.out w4 hk4
 obtain ⟨u4,hc4⟩:∃ u,w4.cell? ⟨g3,4,none⟩=some u:=⟨_,hb4.cell 4 (by omega)⟩
 have hf4:=hb4.free 4
 have HB4:=Lib.hid hb4
 have HK4:=Lib.hid hk4
 clear hw4 hI4 HCP HW3E HW3 hb3 hk3 hk4 hb4
 go_upto_region 6 with fail
 have g31:w1.heap.size≤g3:=by have:=HG3.out;have:=HK2.out.size;omega
 obtain ⟨w5,hw5⟩:∃ w5,w5=w4.setCell ⟨g3,4,none⟩ (.int .u8 W):=⟨_,rfl⟩
 have hb5:Blk w5 g3 170 (I4.set 4 (UInt8.ofNat W)):=by
  have h:=HB4.out.set 4 (UInt8.ofNat W)
  rw [show B (UInt8.ofNat W)=.int .u8 W by simp only [B,UInt8.toNat_ofNat'];rw [Nat.mod_eq_of_lt (by omega)]] at h
  rw [hw5]
  exact h
 have hk5:Keeps [] w1 w5:=by rw [hw5];exact HK4.out.setCell (.inr g31) _
 rw [← hw5]
 have l5:(I4.set 4 (UInt8.ofNat W)).length=60:=by rw [List.length_set];exact l4
 obtain ⟨I5,hI5⟩:∃ I,I=I4.set 4 (UInt8.ofNat W):=⟨_,rfl⟩
 rw [← hI5] at hb5 l5
 have HI5:=Lib.hid hI5
 have HB5:=Lib.hid hb5
 have HK5:=Lib.hid hk5
 have G31:=Lib.hid g31
 clear hw5 hI5 hb5 hk5 l4 hc4 hf4 HB4 HK4 e0 e1 e2 e3 e4 g31
 have CP6:=Lib.hid (put_any (w:=w5.drew) 8 8 52 52 G (show Blk w5.drew g3 _ _ from HB5.out) (by omega) (by omega) (by omega) (by omega) (by omega))
 have HD6:=Lib.hid (HF.out w5.drew (HK5.out.drew)).2.1
 refine wp_region_held_drew (S:=(fun w'=>w'.cell? ⟨g,1,none⟩=some (.int .i64 G))) (by kernel_rfl) ?_ (fun hHeld=>?_)
 ·exact HD6.out
 refine tk 0 ?_
 refine tk 1 ?_
 refine tk 2 ?_
 refine ac 3 fun K hK=>?_
 go_simp
 refine CP6.out.mono ?_
 rintro e w6 ⟨rfl,hb6,hk6⟩
 have HK6:=Lib.hid (HK5.out.drew.trans (G:=[g3]) hk6 (fun k hk=>.inr (by simp at hk;subst hk;exact G31.out)))
 refine hK.out _ _ ?_ (fun hHeld=>?_)
 ·exact (HF.out w6 HK6.out).2.1
 clear hK K
 try simp only [zA,zB,zC,zD,zE,zF,zG,zH]
 refine wpAnyH_done (by kernel_rfl) ?_ _
 have l6:(over I5 8 (leN 8 G)).length=60:=by rw [over_length (by rw [leN_length];omega)];exact l5
 obtain ⟨I6,hI6⟩:∃ I,I=over I5 8 (leN 8 G):=⟨_,rfl⟩
 rw [← hI6] at hb6 l6
 have HI6:=Lib.hid hI6
 have HB6:=Lib.hid hb6
 clear hI6 hb6 hk6 l5 CP6 HB5 HD6 hHeld
 go_upto_region 7 with fail
 have CP7:=Lib.hid (put_any (w:=w6.drew) 16 4 44 44 M (show Blk w6.drew g3 _ _ from HB6.out) (by omega) (by omega) (by omega) (by omega) (by omega))
 have HD7:=Lib.hid (HF.out w6.drew (HK6.out.drew)).2.2.1
 refine wp_region_held_drew (S:=(fun w'=>w'.cell? ⟨g,2,none⟩=some (.int .i64 M))) (by kernel_rfl) ?_ (fun hHeld=>?_)
 ·exact HD7.out
 refine tk 0 ?_
 refine tk 1 ?_
 refine tk 2 ?_
 refine ac 3 fun K hK=>?_
 go_simp
 refine CP7.out.mono ?_
 rintro e w7 ⟨rfl,hb7,hk7⟩
 have HK7:=Lib.hid (HK6.out.drew.trans (G:=[g3]) hk7 (fun k hk=>.inr (by simp at hk;subst hk;exact G31.out)))
 refine hK.out _ _ ?_ (fun hHeld=>?_)
 ·exact (HF.out w7 HK7.out).2.2.1
 clear hK K
 try simp only [zA,zB,zC,zD,zE,zF,zG,zH]
 refine wpAnyH_done (by kernel_rfl) ?_ _
 have l7:(over I6 16 (leN 4 M)).length=60:=by rw [over_length (by rw [leN_length];omega)];exact l6
 obtain ⟨I7,hI7⟩:∃ I,I=over I6 16 (leN 4 M):=⟨_,rfl⟩
 rw [← hI7] at hb7 l7
 have HI7:=Lib.hid hI7
 have HB7:=Lib.hid hb7
 clear hI7 hb7 hk7 l6 CP7 HB6 HD7 hHeld
 go_upto_region 8 with fail
 have CP8:=Lib.hid (put_any (w:=w7.drew) 20 4 40 40 H (show Blk w7.drew g3 _ _ from HB7.out) (by omega) (by omega) (by omega) (by omega) (by omega))
 have HD8:=Lib.hid (HF.out w7.drew (HK7.out.drew)).2.2.2.1
 refine wp_region_held_drew (S:=(fun w'=>w'.cell? ⟨g,3,none⟩=some (.int .i64 H))) (by kernel_rfl) ?_ (fun hHeld=>?_)
 ·exact HD8.out
 refine tk 0 ?_
 refine tk 1 ?_
 refine tk 2 ?_
 refine ac 3 fun K hK=>?_
 go_simp
 refine CP8.out.mono ?_
 rintro e w8 ⟨rfl,hb8,hk8⟩
 have HK8:=Lib.hid (HK7.out.drew.trans (G:=[g3]) hk8 (fun k hk=>.inr (by simp at hk;subst hk;exact G31.out)))
 refine hK.out _ _ ?_ (fun hHeld=>?_)
 ·exact (HF.out w8 HK8.out).2.2.2.1
 clear hK K
 try simp only [zA,zB,zC,zD,zE,zF,zG,zH]
 refine wpAnyH_done (by kernel_rfl) ?_ _
 have l8:(over I7 20 (leN 4 H)).length=60:=by rw [over_length (by rw [leN_length];omega)];exact l7
 obtain ⟨I8,hI8⟩:∃ I,I=over I7 20 (leN 4 H):=⟨_,rfl⟩
 rw [← hI8] at hb8 l8
 have HI8:=Lib.hid hI8
 have HB8:=Lib.hid hb8
 clear hI8 hb8 hk8 l7 CP8 HB7 HD8 hHeld
 go_upto_region 9 with fail
 have CP9:=Lib.hid (put_any (w:=w8.drew) 24 4 36 36 P (show Blk w8.drew g3 _ _ from HB8.out) (by omega) (by omega) (by omega) (by omega) (by omega))
 have HD9:=Lib.hid (HF.out w8.drew (HK8.out.drew)).2.2.2.2
 refine wp_region_held_drew (S:=(fun w'=>w'.cell? ⟨g,4,none⟩=some (.int .i64 P))) (by kernel_rfl) ?_ (fun hHeld=>?_)
 ·exact HD9.out
 refine tk 0 ?_
 refine tk 1 ?_
 refine tk 2 ?_
 refine ac 3 fun K hK=>?_
 go_simp
 refine CP9.out.mono ?_
 rintro e w9 ⟨rfl,hb9,hk9⟩
 have HK9:=Lib.hid (HK8.out.drew.trans (G:=[g3]) hk9 (fun k hk=>.inr (by simp at hk;subst hk;exact G31.out)))
 refine hK.out _ _ ?_ (fun hHeld=>?_)
 ·exact (HF.out w9 HK9.out).2.2.2.2
 clear hK K
 try simp only [zA,zB,zC,zD,zE,zF,zG,zH]
 refine wpAnyH_done (by kernel_rfl) ?_ _
 have l9:(over I8 24 (leN 4 P)).length=60:=by rw [over_length (by rw [leN_length];omega)];exact l8
 obtain ⟨I9,hI9⟩:∃ I,I=over I8 24 (leN 4 P):=⟨_,rfl⟩
 rw [← hI9] at hb9 l9
 have HI9:=Lib.hid hI9
 have HB9:=Lib.hid hb9
 clear hI9 hb9 hk9 l8 CP9 HB8 HD9 hHeld
 go_upto_region 10 with fail
 obtain ⟨w10,hmk,hb10,hk9⟩:=make_page w9
 obtain ⟨g10,hg10⟩:∃ g,g=w9.heap.size:=⟨_,rfl⟩
 rw [← hg10] at hmk hb10
 have HMK:=Lib.hid hmk
 have HB10:=Lib.hid hb10
 have l256:(List.replicate 256 (0:UInt8)).length=256:=List.length_replicate
 obtain ⟨Z,hZ⟩:∃ Z,Z=List.replicate 256 (0:UInt8):=⟨_,rfl⟩
 rw [← hZ] at l256 HB10
 have HZ:=Lib.hid hZ
 rw [← hZ] at hb10
 clear hZ
 have hi9:=HB9.out.keeps hk9 (by simp)
 have cs:=seal_any (blk_all hi9 l9 60 (by omega) (by simp [maxLen])) (by omega)
 rw [l9] at cs
 have CS:=Lib.hid cs
 clear cs
 have HK10:=Lib.hid (HK9.out.trans (G:=[]) hk9 (by simp))
 have G10:=Lib.hid (show w1.heap.size≤g10 by rw [hg10];exact HK9.out.size)
 clear hmk hg10 hb10 hk9 hi9
 go_upto_region 11 with (first | (refine wl_makeSlice rfl 36 (.const (.int .i64 256)) (.const (.int .i64 256)) rfl ?_;refine ⟨_,_,HMK.out,?_⟩;try simp only [zA,zB,zC,zD,zE,zF,zG,zH]))
 clear HMK
 go_upto_region 12 with (first | (go_at_call 94;refine CS.out.mono ?_;rintro e w11 ⟨a11,c11,rfl,ho11,hq11,hk11⟩) | (refine wl_builtin rfl .copy #[.tmp 32,.tmp 34] #[36,36] rfl ?_;simp only [List.map_toArray,List.map_cons,List.map_nil];refine ⟨_,_,run_builtin_copy (run_copy_blk (img:=Z) (l:=sealL I9) (HB10.out.keeps hk11 (by simp)) (ownB_bytes ho11) (by omega) (by rw [sealL_length,l9]) (by omega) (by omega) _),?_⟩;try simp only [zA,zB,zC,zD,zE,zF,zG,zH]))
 go_wp2_with fail
 go_ret2
 have hsl:=sup_laid HI4.out HI5.out HI6.out HI7.out HI8.out HI9.out HZ.out
 have hb11:=(HB10.out.keeps hk11 (by simp)).setRow (over Z 0 (sealL I9))
 have hg1:w.heap.size≤g10:=Nat.le_trans HK.out.size G10.out
 refine ⟨g10,rfl,?_,hg1,((HK.out.trans (G:=[]) HK10.out (by simp)).trans (G:=[]) hk11 (by simp)).setRow (.inr hg1) _⟩
 rw [← hsl]
 exact hb11
open Go.RowKit
theorem shaBlocks_append (s:S8) (a b:List UInt8):∀ n,64 * n≤a.length→shaBlocks s (a++b) n=shaBlocks s a n
 | 0,_=>rfl
 | n+1,h=>by
  simp only [shaBlocks]
  rw [shaBlocks_append s a b n (by omega),List.drop_append_of_le_length (by omega),List.take_append_of_le_length (by simp;omega)]
def hState (m:List UInt8):S8:=shaBlocks shaIV m (m.length / 64)
def hTail (m:List UInt8):List UInt8:=m.drop (64 * (m.length / 64))
theorem hState_ok (m:List UInt8):(hState m).ok:=shaBlocks_ok shaIV_ok _ _
theorem hTail_length (m:List UInt8):(hTail m).length=m.length % 64:=by simp only [hTail,List.length_drop];omega
theorem hState_part {m l:List UInt8} (h:m.length % 64+l.length < 64):hState (m++l)=hState m∧hTail (m++l)=hTail m++l:=by
 have e:(m++l).length / 64=m.length / 64:=by rw [List.length_append];omega
 refine ⟨?_,?_⟩
 ·unfold hState
  rw [e]
  exact shaBlocks_append _ _ _ _ (by omega)
 ·unfold hTail
  rw [e,List.drop_append_of_le_length (by omega)]
theorem hState_full {m l:List UInt8} (h:m.length % 64+l.length=64):hState (m++l)=shaBlock (hState m) (hTail m++l)∧hTail (m++l)=[]∧(m++l).length % 64=0:=by
 have e:(m++l).length / 64=m.length / 64+1:=by rw [List.length_append];omega
 have e2:(m++l).length % 64=0:=by rw [List.length_append];omega
 refine ⟨?_,?_,e2⟩
 ·unfold hState
  rw [e,shaBlocks,shaBlocks_append _ _ _ _ (by omega),List.drop_append_of_le_length (by omega)]
  rw [List.take_of_length_le]
  ·rfl
  ·rw [List.length_append,List.length_drop];omega
 ·exact List.eq_nil_of_length_eq_zero (by rw [hTail_length,e2])
def hCells (s:S8) (r:List UInt8) (k t:Nat):List Value:=s.words.map W32++(r.map B++[.int .i64 k,.int .u64 t])
structure HIn (w:World) (g:Nat) (s:S8) (r:List UInt8) (k t:Nat):Prop where
 row:w.heap[g]?=some (.cells (hCells s r k t).toArray 158 (0,0))
 len:r.length=64
theorem HIn.lt {w:World} {g:Nat} {s:S8} {r:List UInt8} {k t:Nat} (h:HIn w g s r k t):g < w.heap.size:=lt_of_heap h.row
theorem HIn.free {w:World} {g:Nat} {s:S8} {r:List UInt8} {k t:Nat} (h:HIn w g s r k t) (i:Nat):w.frozen? ⟨g,i,none⟩=false:=frozen_of_row w g i _ _ h.row
theorem HIn.keeps {w w':World} {g:Nat} {s:S8} {r:List UInt8} {k t:Nat} (h:HIn w g s r k t) {F:List Nat} (hk:Keeps F w w') (hg:g ∉ F):HIn w' g s r k t:=⟨(hk.block g h.lt hg).trans h.row,h.len⟩
theorem words_length (s:S8):(s.words.map W32).length=8:=rfl
theorem HIn.have_cell {w:World} {g:Nat} {s:S8} {r:List UInt8} {k t:Nat} (h:HIn w g s r k t):w.cell? ⟨g,72,none⟩=some (.int .i64 k):=by
 rw [cell_of_row w g 72 _ _ _ h.row,hCells,List.getElem?_toArray,List.getElem?_append_right (by rw [words_length];omega),List.getElem?_append_right (by rw [words_length,List.length_map,h.len];omega),words_length,List.length_map,h.len]
 rfl
theorem HIn.taken_cell {w:World} {g:Nat} {s:S8} {r:List UInt8} {k t:Nat} (h:HIn w g s r k t):w.cell? ⟨g,73,none⟩=some (.int .u64 t):=by
 rw [cell_of_row w g 73 _ _ _ h.row,hCells,List.getElem?_toArray,List.getElem?_append_right (by rw [words_length];omega),List.getElem?_append_right (by rw [words_length,List.length_map,h.len];omega),words_length,List.length_map,h.len]
 rfl
theorem HIn.set_have {w:World} {g:Nat} {s:S8} {r:List UInt8} {k t:Nat} (h:HIn w g s r k t) (k':Nat):HIn (w.setCell ⟨g,72,none⟩ (.int .i64 k')) g s r k' t:=by
 refine ⟨?_,h.len⟩
 rw [heap_setCell_same w g 72 _ _ _ h.row]
 simp only [hCells,List.setIfInBounds_toArray]
 rw [List.set_append_right _ _ (by rw [words_length];omega),List.set_append_right _ _ (by rw [words_length,List.length_map,h.len];omega),words_length,List.length_map,h.len]
 rfl
theorem HIn.set_taken {w:World} {g:Nat} {s:S8} {r:List UInt8} {k t:Nat} (h:HIn w g s r k t) (t':Nat):HIn (w.setCell ⟨g,73,none⟩ (.int .u64 t')) g s r k t':=by
 refine ⟨?_,h.len⟩
 rw [heap_setCell_same w g 73 _ _ _ h.row]
 simp only [hCells,List.setIfInBounds_toArray]
 rw [List.set_append_right _ _ (by rw [words_length];omega),List.set_append_right _ _ (by rw [words_length,List.length_map,h.len];omega),words_length,List.length_map,h.len]
 rfl
theorem HIn.rest {w:World} {g:Nat} {s:S8} {r:List UInt8} {k t:Nat} (h:HIn w g s r k t):w.rangeAt g 8 (r.map B):=by
 have:=rangeAt_part (w:=w) (b:=g) (xs:=s.words.map W32) (ys:=r.map B) (zs:=[.int .i64 k,.int .u64 t]) (t:=158) (fr:=(0,0)) (by rw [List.append_assoc];exact h.row)
 exact this
theorem HIn.copy {w:World} {g:Nat} {s:S8} {r:List UInt8} {k t:Nat} (h:HIn w g s r k t) {v:Value} {l:List UInt8} (hv:BytesAt w v l) (o n c:Nat) (hn:o+n=64) (ty:TypeId) :
  ∃ w',(Builtin.copy_ #[36,36] ty #[.slice (some ⟨g,8+o,none⟩) n c,v]).run Tryz.prog w=.ok (.int .i64 ((min l.length n:Nat):Int)) w'∧HIn w' g s (over r o (l.take n)) k t∧Keeps [g] w w':=by
 rcases Nat.eq_zero_or_pos (min l.length n) with h0 | h0
 ·obtain ⟨a,c2,rfl,_,_⟩:=hv.form
  have hr:=run_copy_none (P:=Tryz.prog) w 36 36 ty 5 (some ⟨g,8+o,none⟩) a n c l.length c2 Tryz.underlying36 (by kernel_rfl) h0
  refine ⟨w,by rw [h0];exact hr,?_,Keeps.refl _ _⟩
  have e:l.take n=[]:=List.eq_nil_of_length_eq_zero (by rw [List.length_take];omega)
  rw [e]
  have e2:over r o []=r:=by simp [over]
  rw [e2]
  exact h
 ·obtain ⟨a,c2,rfl,_,_⟩:=hv.form
  obtain ⟨go,so,rfl,_,hr⟩:=hv.at (by omega)
  have htl:(l.take n).length=min l.length n:=by rw [List.length_take,Nat.min_comm]
  have hlen:=h.len
  have:=run_copy_row (P:=Tryz.prog) w 36 36 ty 5 g (8+o) n c ⟨go,so,none⟩ l.length c2 (hCells s r k t).toArray 158 ((l.take n).map B) Tryz.underlying36 (by kernel_rfl) h.row (by rw [List.length_map,htl])
   (fun j v hj=>by
    rw [Addr.add_mid]
    refine hr j v ?_
    rw [List.map_take,List.getElem?_take] at hj
    split at hj
    ·exact hj
    ·cases hj)
   (by simp only [List.length_map,htl,hCells,List.size_toArray,List.length_append,List.length_cons,List.length_nil,h.len];first | done | (have hw8:s.words.length=8:=rfl;omega)) (B_one _)
  refine ⟨_,by rw [this];simp only [List.length_map,htl];rfl,⟨?_,?_⟩,(Keeps.refl _ _).setRow (.inl (by simp)) _⟩
  ·refine (setRow_heap w g _ _ _ _ h.row).trans ?_
   have e1:(hCells s r k t).take (8+o)=s.words.map W32++(r.take o).map B:=by
    unfold hCells
    rw [List.take_append,words_length,Nat.add_sub_cancel_left,List.take_of_length_le (by rw [words_length];omega),List.take_append_of_le_length (by simp;omega),List.map_take]
   have e2:(hCells s r k t).drop (8+o+min l.length n)=(r.drop (o+(l.take n).length)).map B++[.int .i64 k,.int .u64 t]:=by
    unfold hCells
    rw [← htl,Nat.add_assoc,List.drop_append,words_length,Nat.add_sub_cancel_left,List.drop_of_length_le (by rw [words_length];omega),List.nil_append,List.drop_append_of_le_length (by simp only [List.length_map,htl];omega),List.map_drop]
   rw [e1,e2]
   simp [hCells,over]
  ·simp only [over,List.length_append,List.length_take,List.length_drop]
   omega
structure HashAt (w:World) (g:Nat) (m:List UInt8):Prop where
 cells:∃ r,HIn w g (hState m) r (m.length % 64) (m.length % 18446744073709551616)∧r.take (m.length % 64)=hTail m
open Go.RowKit
def sliceLen:Value→Nat
 | .slice _ n _=>n
 | _=>0
structure WLoop (w0 w:World) (g t:Nat) (all:List UInt8) (v:Value):Prop where
 ex:∃ (m l:List UInt8) (a:Option Addr) (c:Nat),v=.slice a l.length c∧m++l=all∧m.length % 64=0∧BytesAt w v l∧l.length≤c∧c≤maxLen∧(∀ k,v.elemBlock=some k→k≠g)∧(∃ r,HIn w g (hState m) r 0 t)∧Keeps [g] w0 w
theorem over_front {r l:List UInt8} (h:l.length≤r.length):(over r 0 l).take l.length=l:=by simp [over]
set_option maxRecDepth 100000 in
theorem run_rest_from (w:World) (g k:Nat) (hk:k≤64):(Instr.sliceAt 155 (.pointer (some ⟨g,8,none⟩)) (some (.int .i64 k)) none none).run Tryz.prog w=.ok (.slice (if k=64 then some ⟨g,8,none⟩ else some ⟨g,8+k,none⟩) (64 - k) (64 - k)) w:=by
 have h:=run_sliceAt_array_l (P:=Tryz.prog) w 155 ⟨g,8,none⟩ Tryz.underlying155 .i64 k (by omega) (by show (k:Int)≤(64:Nat);omega)
 rw [h]
 show Result.ok (slicedAt ⟨g,8,none⟩ (Int.toNat k) 64 64 1) w=_
 simp only [slicedAt,Int.toNat_natCast,Nat.mul_one,Addr.add_mid]
 by_cases e:k=64
 ·subst e;rfl
 ·rw [if_neg e,if_neg (fun h=>e h.symm)]
theorem elem_block_some {g o n c k:Nat} (h:(Value.slice (some ⟨g,o,none⟩) n c).elemBlock=some k):k=g:=by
 cases n with
 | zero=>simp [Value.elemBlock] at h
 | succ n=>simp [Value.elemBlock] at h;exact h.symm
set_option maxRecDepth 100000 in
set_option maxHeartbeats 1600000 in
theorem write_zero {w:World} {g:Nat} {m l:List UInt8} {v:Value} (h:HashAt w g m) (h0:m.length % 64=0) (hv:BytesAt w v l) (hvg:∀ k,v.elemBlock=some k→k≠g) (ht:Tabs w) (hg1:g≠2) (hg2:g≠0) :
  Calls Tryz.prog 82 #[.pointer (some ⟨g,0,none⟩),v] w fun e w'=>e=.returned (.tuple #[])∧HashAt w' g (m++l)∧Keeps [g] w w':=by
 obtain ⟨r,hI,hr⟩:=h.cells
 obtain ⟨a,c,rfl,hc1,hc2⟩:=hv.form
 have hc2':=hc2
 unfold maxLen at hc2'
 obtain ⟨T0,hT0⟩:∃ x,x=m.length % 18446744073709551616:=⟨_,rfl⟩
 obtain ⟨T,hT⟩:∃ x,x=(m++l).length % 18446744073709551616:=⟨_,rfl⟩
 rw [← hT0] at hI
 have u1:IntKind.u64.wrap ((T0:Int)+(l.length:Int))=(T:Int):=by rw [hT,hT0,List.length_append];simp only [IntKind.wrap,IntKind.bits,IntKind.signed];simp
 rw [h0] at hI hr
 have c72:=hI.have_cell
 have c73:=hI.taken_cell
 have f73:=hI.free 73
 have HI:=Lib.hid hI
 have HHT:=Lib.hid hT
 have HV:=Lib.hid hv
 have HTABS:=Lib.hid ht
 have HVG:=Lib.hid hvg
 have HG:=Lib.hid (And.intro hg1 hg2)
 have HM:=Lib.hid h0
 clear hI hT hT0 hv ht hvg hg1 hg2 h0 h hr
 go_enter Tryz.func82,Tryz.ntmps82
 go_wp2_with fail
 go_loopw [1] (fun v wr=>WLoop w wr g T (m++l) v) (fun v _=>sliceLen v)
 case atStart =>
  have hk0:Keeps [g] w (w.setCell ⟨g,73,none⟩ (.int .u64 (T:Nat))):=(Keeps.refl _ _).setCell (.inl (by simp)) _
  exact ⟨m,l,a,c,rfl,rfl,HM.out,HV.out.keeps hk0 (fun k hk=>by simpa using HVG.out k hk),hc1,hc2,HVG.out,⟨r,HI.out.set_taken T⟩,hk0⟩
 case round =>
  obtain ⟨m1,l1,a1,c1,rfl,hal,hm1,hv1,hlc1,hc1,hvg1,⟨r1,hI1⟩,hk1⟩:=hrel.ex
  have hc1':=hc1
  unfold maxLen at hc1'
  clear hrel
  by_cases hlt:64≤l1.length
  ·obtain ⟨go,so,rfl,hgo,hrg⟩:=hv1.at (by omega)
   have b1:decide ((64:Int)≤(l1.length:Int))=true:=by simp;omega
   have hrg64:wr.rangeAt go so ((l1.take 64).map B):=fun j v hj=>by
    refine hrg j v ?_
    rw [List.map_take,List.getElem?_take] at hj
    split at hj
    ·exact hj
    ·cases hj
   have ht64:(l1.take 64).length=64:=by rw [List.length_take];omega
   have hst:=step_any (s:=hState m1) (rest:=r1.map B++[.int .i64 (0:Nat),.int .u64 T]) hrg64 ht64 hgo (show 64≤c1 by omega) (by omega) (hState_ok m1) hI1.row ((HTABS.out.keeps hk1 (by simp;exact Ne.symm HG.out.1) (by simp;exact Ne.symm HG.out.2))) HG.out.1
   obtain ⟨a2,c2,hrun2,hb2,hm2,hf2⟩:=sl_from hv1 hlt hlc1 hc1 (F:=fun k=>k≠g) hvg1
   have hfull:=hState_full (m:=m1) (l:=l1.take 64) (by rw [hm1,ht64])
   have e0:hTail m1=[]:=List.eq_nil_of_length_eq_zero (by rw [hTail_length,hm1])
   rw [e0,List.nil_append] at hfull
   have HST:=Lib.hid hst
   have HRUN2:=Lib.hid hrun2
   have HB2:=Lib.hid hb2
   have HF2:=Lib.hid hf2
   have HFULL:=Lib.hid hfull
   have HK1:=Lib.hid hk1
   have HI1:=Lib.hid hI1
   have HAL:=Lib.hid hal
   have HVG1:=Lib.hid hvg1
   clear hst hrun2 hb2 hf2 hfull hk1 hI1 hal hvg1 hv1 hrg hrg64 e0
   go_upto_region 9 with (first | (refine wl_slice rfl 36 (.tmp 59) none (some (.const (.int .i64 64))) none rfl ?_;refine ⟨_,_,sl_run_head _ _ _ _ 64 (by omega),?_⟩;try simp only [zA,zB,zC,zD,zE,zF,zG,zH]) | (go_at_call 101;refine HST.out.mono ?_;rintro e w2 ⟨rfl,hrow2,hk2⟩))
   go_wp2_with (first | (refine wl_slice rfl 36 (.tmp 59) none (some (.const (.int .i64 64))) none rfl ?_;refine ⟨_,_,sl_run_head _ _ _ _ 64 (by omega),?_⟩;try simp only [zA,zB,zC,zD,zE,zF,zG,zH]) | (go_at_call 101;refine HST.out.mono ?_;rintro e w2 ⟨rfl,hrow2,hk2⟩) | (refine wl_slice rfl 36 (.tmp 62) (some (.const (.int .i64 64))) none none rfl ?_;refine ⟨_,_,HRUN2.out _,?_⟩;try simp only [zA,zB,zC,zD,zE,zF,zG,zH]))
   go_roundw
   case rel =>
    refine ⟨m1++l1.take 64,l1.drop 64,a2,c2,rfl,?_,HFULL.out.2.2,?_,?_,hm2,HF2.out,⟨r1,⟨?_,HI1.out.len⟩⟩,?_⟩
    ·rw [List.append_assoc,List.take_append_drop];exact HAL.out
    ·exact HB2.out.keeps hk2 (fun k hk=>by simpa using HF2.out k hk)
    ·exact (by obtain ⟨_,_,e,h,_⟩:=HB2.out.form;injection e with _ _ e3;rw [e3];exact h)
    ·rw [HFULL.out.1];exact hrow2
    ·exact HK1.out.trans (G:=[g]) hk2 (fun j hj=>.inl hj)
   case measure=>simp [sliceLen];omega
  ·have b1:decide ((64:Int)≤(l1.length:Int))=false:=by simp;omega
   have hcp:=hI1.copy hv1 0 64 64 rfl 3
   have htk:l1.take 64=l1:=List.take_of_length_le (by omega)
   have hmn:min l1.length 64=l1.length:=by omega
   rw [htk,hmn] at hcp
   simp only [Nat.add_zero] at hcp
   obtain ⟨w3,hrun3,hI3,hk3⟩:=hcp
   have hpart:=hState_part (m:=m1) (l:=l1) (by omega)
   have e0:hTail m1=[]:=List.eq_nil_of_length_eq_zero (by rw [hTail_length,hm1])
   rw [e0,List.nil_append] at hpart
   have hlen1:(m++l).length % 64=l1.length:=by rw [← hal,List.length_append];omega
   have hHAT:HashAt (w3.setCell ⟨g,72,none⟩ (.int .i64 (l1.length:Nat))) g (m++l):=by
    refine ⟨over r1 0 l1,?_,?_⟩
    ·rw [hlen1,← HHT.out,← hal,hpart.1]
     exact hI3.set_have _
    ·rw [hlen1,← hal,hpart.2]
     exact over_front (by rw [hI1.len];omega)
   have hKK:Keeps [g] w (w3.setCell ⟨g,72,none⟩ (.int .i64 (l1.length:Nat))):=(hk1.trans (G:=[g]) hk3 (fun j hj=>.inl hj)).setCell (.inl (by simp)) _
   have f72:=hI3.free 72
   have c72:=hI3.have_cell
   have HHAT:=Lib.hid hHAT
   have HKK:=Lib.hid hKK
   have HRUN3:=Lib.hid (run_builtin_copy hrun3)
   clear hHAT hKK hrun3 hI3 hk3 hpart hlen1 hk1 hI1 hal hvg1 hv1 e0 htk hmn
   go_wp2_with (first | (refine wl_builtin rfl .copy #[.tmp 68,.tmp 69] #[36,36] rfl ?_;simp only [List.map_toArray,List.map_cons,List.map_nil];refine ⟨_,_,HRUN3.out,?_⟩;try simp only [zA,zB,zC,zD,zE,zF,zG,zH]))
   refine Go.Great.bodyPost_end0 rfl rfl ⟨rfl,?_,?_⟩
   ·exact HHAT.out
   ·exact HKK.out
set_option maxRecDepth 100000 in
set_option maxHeartbeats 1600000 in
theorem write_part {w:World} {g:Nat} {m l:List UInt8} {v:Value} (h:HashAt w g m) (hpos:0 < m.length % 64) (hroom:m.length % 64+l.length < 64) (hv:BytesAt w v l) (hvg:∀ k,v.elemBlock=some k→k≠g) (ht:Tabs w) (hg1:g≠2) (hg2:g≠0) :
  Calls Tryz.prog 82 #[.pointer (some ⟨g,0,none⟩),v] w fun e w'=>e=.returned (.tuple #[])∧HashAt w' g (m++l)∧Keeps [g] w w':=by
 obtain ⟨r,hI,hr⟩:=h.cells
 obtain ⟨a,c,rfl,hc1,hc2⟩:=hv.form
 have hc2':=hc2
 unfold maxLen at hc2'
 obtain ⟨T0,hT0⟩:∃ x,x=m.length % 18446744073709551616:=⟨_,rfl⟩
 obtain ⟨T,hT⟩:∃ x,x=(m++l).length % 18446744073709551616:=⟨_,rfl⟩
 rw [← hT0] at hI
 have u1:IntKind.u64.wrap ((T0:Int)+(l.length:Int))=(T:Int):=by rw [hT,hT0,List.length_append];simp only [IntKind.wrap,IntKind.bits,IntKind.signed];simp
 obtain ⟨k,hk⟩:∃ x,x=m.length % 64:=⟨_,rfl⟩
 have hk64:k < 64:=by omega
 rw [← hk] at hI hr hpos hroom
 obtain ⟨wA,hwA⟩:∃ x,x=w.setCell ⟨g,73,none⟩ (.int .u64 (T:Nat)):=⟨_,rfl⟩
 have hkA:Keeps [g] w wA:=by rw [hwA];exact (Keeps.refl _ _).setCell (.inl (by simp)) _
 have hIA:HIn wA g (hState m) r k T:=by rw [hwA];exact hI.set_taken T
 have hvA:BytesAt wA (.slice a l.length c) l:=hv.keeps hkA (fun k hk=>by simpa using hvg k hk)
 have hID:HIn wA.drew g (hState m) r k T:=hIA.keeps (F:=[]) (Keeps.refl _ _).drew (by simp)
 have hvD:BytesAt wA.drew (.slice a l.length c) l:=hvA.keeps (F:=[]) (Keeps.refl _ _).drew (by simp)
 have hcp:=fun ty=>hID.copy hvD k (64 - k) (64 - k) (by omega) ty
 have hmn:min l.length (64 - k)=l.length:=by omega
 have htk:l.take (64 - k)=l:=List.take_of_length_le (by omega)
 rw [hmn,htk] at hcp
 have hcp':∃ w',(∀ ty,(Builtin.copy_ #[36,36] ty #[.slice (some ⟨g,8+k,none⟩) (64 - k) (64 - k),.slice a l.length c]).run Tryz.prog wA.drew=.ok (.int .i64 (l.length:Nat)) w')∧HIn w' g (hState m) (over r k l) k T∧Keeps [g] wA.drew w':=by
  obtain ⟨w',e1,e2,e3⟩:=hcp 3
  exact ⟨w',fun ty=>e1,e2,e3⟩
 obtain ⟨w3,hrun3,hI3,hk3⟩:=hcp'
 have hkD:Keeps [g] w w3:=hkA.trans (G:=[g]) (((Keeps.refl [g] wA).drew).trans (G:=[g]) hk3 (fun j hj=>.inl hj)) (fun j hj=>.inl (by simpa using hj))
 obtain ⟨a2,c2,hrun2,hb2,hm2,hf2⟩:=sl_from (n:=l.length) hv (by omega) hc1 hc2 (F:=fun k=>k≠g) hvg
 have c72:=hI.have_cell
 have c73:=hI.taken_cell
 have f73:=hI.free 73
 have cA72:=hIA.have_cell
 have c372:=hI3.have_cell
 have f372:=hI3.free 72
 have b0:decide ((0:Int) < (k:Int))=true:=by simp;omega
 have e64:((k+l.length:Nat):Int)=(k:Int)+(l.length:Int):=by omega
 have b1:decide (((k:Int)+(l.length:Int)) < 64)=true:=by simp;omega
 have hpart:=hState_part (m:=m) (l:=l) (by omega)
 have hHAT:HashAt (w3.setCell ⟨g,72,none⟩ (.int .i64 ((k+l.length:Nat):Int))) g (m++l):=by
  have hlen:(m++l).length % 64=k+l.length:=by rw [List.length_append];omega
  refine ⟨over r k l,?_,?_⟩
  ·rw [hlen,← hT,hpart.1]
   exact hI3.set_have _
  ·rw [hlen,hpart.2,← hr]
   have:(r.take k).length=k:=by rw [List.length_take,hI.len];omega
   unfold over
   exact List.take_left' (by rw [List.length_append,this])
 have HHAT:=Lib.hid hHAT
 have HKF:=Lib.hid (hkD.setCell (p:=⟨g,72,none⟩) (.inl (by simp)) (.int .i64 ((k+l.length:Nat):Int)))
 clear hHAT hpart
 have HSL:=Lib.hid (show ∀ wx,(Instr.sliceAt 155 (.pointer (some ⟨g,8,none⟩)) (some (.int .i64 k)) none none).run Tryz.prog wx=.ok (.slice (some ⟨g,8+k,none⟩) (64 - k) (64 - k)) wx from fun wx=>by have:=run_rest_from wx g k (by omega);rwa [if_neg (by omega)] at this)
 have HI:=Lib.hid hI
 have HI3:=Lib.hid hI3
 have HK3:=Lib.hid hkD
 have HRUN3:=Lib.hid hrun3
 have HRUN2:=Lib.hid hrun2
 have HB2:=Lib.hid hb2
 have HF2:=Lib.hid hf2
 have HWA:=Lib.hid hwA
 have HHT:=Lib.hid hT
 have HTABS:=Lib.hid ht
 have HG:=Lib.hid (And.intro hg1 hg2)
 have HM:=Lib.hid hk
 have HR:=Lib.hid hr
 have HLL:=Lib.hid hI.len
 clear hI hT hT0 hv ht hvg hg1 hg2 h hr hwA hkA hIA hvA hID hvD hcp hI3 hk3 hkD hrun3 hrun2 hb2 hf2 hk
 go_enter Tryz.func82,Tryz.ntmps82
 go_upto_region 2 with fail
 rw [← HWA.out]
 refine wp_region_held_drew (S:=(fun w'=>w'.cell? ⟨g,72,none⟩=some (.int .i64 (k:Nat)))) (by kernel_rfl) ?_ (fun hHeld=>?_)
 ·exact cA72
 refine tk 0 ?_
 refine tk 1 ?_
 refine tk 2 ?_
 refine tk 3 ?_
 refine tk 4 ?_
 refine tk 5 ?_
 refine tk 6 ?_
 refine' wpAnyH_take (i:=7) (v:=_) rfl (by kernel_rfl) (by kernel_rfl) (by kernel_rfl) (fun _ _ _ h=>h) (Or.inl ⟨by rfl,?_⟩) (by assumption) ?_
 rotate_left 1
 ·intro w0 hSw
  go_simp
  rw [HSL.out w0]
  rfl
 try simp only [zA,zB,zC,zD,zE,zF,zG,zH]
 refine tk 8 ?_
 refine ac 9 fun K hK=>?_
 refine step_copy rfl (.tmp 27) (.tmp 28) rfl _ _ _ (by rfl) (by rfl) HRUN3.out ?_
 refine hK.out _ _ ?_ (fun hHeld=>?_)
 ·exact c372
 clear hK K
 try simp only [zA,zB,zC,zD,zE,zF,zG,zH]
 refine tk 10 ?_
 refine wpAnyH_done (by kernel_rfl) ?_ _
 clear hHeld
 go_wp2_with (first | (refine wl_slice rfl 36 (.tmp 38) (some (.tmp 39)) none none rfl ?_;refine ⟨_,_,HRUN2.out _,?_⟩;try simp only [zA,zB,zC,zD,zE,zF,zG,zH]))
 (try simp only [Exit.inBlock,Exit.then])
 refine bodyPost_ret (results_none rfl _ _ _) rfl ?_
 have h1:=HHAT.out
 have h2:=HKF.out
 rw [e64] at h1 h2
 exact ⟨rfl,h1,h2⟩
set_option maxRecDepth 100000 in
set_option maxHeartbeats 3200000 in
theorem write_full {w:World} {g:Nat} {m l:List UInt8} {v:Value} (h:HashAt w g m) (hpos:0 < m.length % 64) (hroom:64≤m.length % 64+l.length) (hv:BytesAt w v l) (hvg:∀ k,v.elemBlock=some k→k≠g) (ht:Tabs w) (hg1:g≠2) (hg2:g≠0) :
  Calls Tryz.prog 82 #[.pointer (some ⟨g,0,none⟩),v] w fun e w'=>e=.returned (.tuple #[])∧HashAt w' g (m++l)∧Keeps [g] w w':=by
 obtain ⟨r,hI,hr⟩:=h.cells
 obtain ⟨a,c,rfl,hc1,hc2⟩:=hv.form
 have hc2':=hc2
 unfold maxLen at hc2'
 obtain ⟨T0,hT0⟩:∃ x,x=m.length % 18446744073709551616:=⟨_,rfl⟩
 obtain ⟨T,hT⟩:∃ x,x=(m++l).length % 18446744073709551616:=⟨_,rfl⟩
 rw [← hT0] at hI
 have u1:IntKind.u64.wrap ((T0:Int)+(l.length:Int))=(T:Int):=by rw [hT,hT0,List.length_append];simp only [IntKind.wrap,IntKind.bits,IntKind.signed];simp
 obtain ⟨k,hk⟩:∃ x,x=m.length % 64:=⟨_,rfl⟩
 have hk64:k < 64:=by omega
 rw [← hk] at hI hr hpos hroom
 obtain ⟨wA,hwA⟩:∃ x,x=w.setCell ⟨g,73,none⟩ (.int .u64 (T:Nat)):=⟨_,rfl⟩
 have hkA:Keeps [g] w wA:=by rw [hwA];exact (Keeps.refl _ _).setCell (.inl (by simp)) _
 have hIA:HIn wA g (hState m) r k T:=by rw [hwA];exact hI.set_taken T
 have hvA:BytesAt wA (.slice a l.length c) l:=hv.keeps hkA (fun k hk=>by simpa using hvg k hk)
 have hID:HIn wA.drew g (hState m) r k T:=hIA.keeps (F:=[]) (Keeps.refl _ _).drew (by simp)
 have hvD:BytesAt wA.drew (.slice a l.length c) l:=hvA.keeps (F:=[]) (Keeps.refl _ _).drew (by simp)
 have hcp:=fun ty=>hID.copy hvD k (64 - k) (64 - k) (by omega) ty
 have hmn:min l.length (64 - k)=64 - k:=by omega
 rw [hmn] at hcp
 have hcp':∃ w',(∀ ty,(Builtin.copy_ #[36,36] ty #[.slice (some ⟨g,8+k,none⟩) (64 - k) (64 - k),.slice a l.length c]).run Tryz.prog wA.drew=.ok (.int .i64 ((64 - k:Nat):Int)) w')∧HIn w' g (hState m) (over r k (l.take (64 - k))) k T∧Keeps [g] wA.drew w':=by
  obtain ⟨w',e1,e2,e3⟩:=hcp 3
  exact ⟨w',fun ty=>e1,e2,e3⟩
 obtain ⟨w3,hrun3,hI3,hk3⟩:=hcp'
 have hkD:Keeps [g] w w3:=hkA.trans (G:=[g]) (((Keeps.refl [g] wA).drew).trans (G:=[g]) hk3 (fun j hj=>.inl hj)) (fun j hj=>.inl (by simpa using hj))
 obtain ⟨a2,c2,hrun2,hb2,hm2,hf2⟩:=sl_from (n:=64 - k) hv (by omega) hc1 hc2 (F:=fun k=>k≠g) hvg
 have c72:=hI.have_cell
 have c73:=hI.taken_cell
 have f73:=hI.free 73
 have cA72:=hIA.have_cell
 have c372:=hI3.have_cell
 have f372:=hI3.free 72
 have b0:decide ((0:Int) < (k:Int))=true:=by simp;omega
 have e64:(k:Int)+((64 - k:Nat):Int)=((64:Nat):Int):=by omega
 have b1:decide (((k:Int)+((64 - k:Nat):Int)) < 64)=false:=by simp;omega
 have htl:(l.take (64 - k)).length=64 - k:=by rw [List.length_take];omega
 have hfull:=hState_full (m:=m) (l:=l.take (64 - k)) (by rw [htl];omega)
 have hov:over r k (l.take (64 - k))=hTail m++l.take (64 - k):=by
  unfold over
  rw [htl,hr,List.drop_of_length_le (by rw [hI.len];omega),List.append_nil]
 rw [← hov] at hfull
 obtain ⟨R,hR⟩:∃ R,R=over r k (l.take (64 - k)):=⟨_,rfl⟩
 rw [← hR] at hfull hI3
 obtain ⟨w4,hw4⟩:∃ x,x=w3.setCell ⟨g,72,none⟩ (.int .i64 64):=⟨_,rfl⟩
 have hI4:HIn w4 g (hState m) R 64 T:=by rw [hw4];exact hI3.set_have 64
 have hk4:Keeps [g] w w4:=by rw [hw4];exact hkD.setCell (.inl (by simp)) _
 have hst:=step_any (s:=hState m) (p:=R) (rest:=R.map B++[.int .i64 (64:Nat),.int .u64 T]) (cp:=64) hI4.rest hI4.len hI4.lt (by omega) (by omega) (hState_ok m) hI4.row (ht.keeps hk4 (by simp;exact Ne.symm hg1) (by simp;exact Ne.symm hg2)) hg1
 have HST:=Lib.hid hst
 have HW4:=Lib.hid hw4
 have HK4:=Lib.hid hk4
 have HFULL:=Lib.hid hfull
 have HRL:=Lib.hid hI4.len
 have cc72:=hI4.have_cell
 clear hst hw4 hk4 hfull hov hR hI4
 have HSL:=Lib.hid (show ∀ wx,(Instr.sliceAt 155 (.pointer (some ⟨g,8,none⟩)) (some (.int .i64 k)) none none).run Tryz.prog wx=.ok (.slice (some ⟨g,8+k,none⟩) (64 - k) (64 - k)) wx from fun wx=>by have:=run_rest_from wx g k (by omega);rwa [if_neg (by omega)] at this)
 have HI:=Lib.hid hI
 have HI3:=Lib.hid hI3
 have HK3:=Lib.hid hkD
 have HRUN3:=Lib.hid hrun3
 have HRUN2:=Lib.hid hrun2
 have HB2:=Lib.hid hb2
 have HF2:=Lib.hid hf2
 have HWA:=Lib.hid hwA
 have HHT:=Lib.hid hT
 have HTABS:=Lib.hid ht
 have HG:=Lib.hid (And.intro hg1 hg2)
 have HM:=Lib.hid hk
 have HR:=Lib.hid hr
 have HLL:=Lib.hid hI.len
 clear hI hT hT0 hv ht hvg hg1 hg2 h hr hwA hkA hIA hvA hID hvD hcp hI3 hk3 hkD hrun3 hrun2 hb2 hf2 hk
 go_enter Tryz.func82,Tryz.ntmps82
 go_upto_region 2 with fail
 rw [← HWA.out]
 refine wp_region_held_drew (S:=(fun w'=>w'.cell? ⟨g,72,none⟩=some (.int .i64 (k:Nat)))) (by kernel_rfl) ?_ (fun hHeld=>?_)
 ·exact cA72
 refine tk 0 ?_
 refine tk 1 ?_
 refine tk 2 ?_
 refine tk 3 ?_
 refine tk 4 ?_
 refine tk 5 ?_
 refine tk 6 ?_
 refine' wpAnyH_take (i:=7) (v:=_) rfl (by kernel_rfl) (by kernel_rfl) (by kernel_rfl) (fun _ _ _ h=>h) (Or.inl ⟨by rfl,?_⟩) (by assumption) ?_
 rotate_left 1
 ·intro w0 hSw
  go_simp
  rw [HSL.out w0]
  rfl
 try simp only [zA,zB,zC,zD,zE,zF,zG,zH]
 refine tk 8 ?_
 refine ac 9 fun K hK=>?_
 refine step_copy rfl (.tmp 27) (.tmp 28) rfl _ _ _ (by rfl) (by rfl) HRUN3.out ?_
 refine hK.out _ _ ?_ (fun hHeld=>?_)
 ·exact c372
 clear hK K
 try simp only [zA,zB,zC,zD,zE,zF,zG,zH]
 refine tk 10 ?_
 refine wpAnyH_done (by kernel_rfl) ?_ _
 clear hHeld
 go_upto_region 6 with (first | (refine wl_slice rfl 36 (.tmp 38) (some (.tmp 39)) none none rfl ?_;refine ⟨_,_,HRUN2.out _,?_⟩;try simp only [zA,zB,zC,zD,zE,zF,zG,zH]))
 first | rw [← HW4.out] | (have HW4':=HW4.out;rw [show ((64:Int))=((64:Nat):Int) from rfl] at HW4';rw [← HW4'])
 go_upto_region 7 with (first | (go_at_call 101;refine HST.out.mono ?_;rintro e w5 ⟨rfl,hrow5,hk5⟩))
 have hI5:HIn w5 g _ R 64 T:=⟨hrow5,HRL.out⟩
 have f572:=hI5.free 72
 have c572:=hI5.have_cell
 have HI5:=Lib.hid hI5
 go_wp2_with fail
 go_loopw [1] (fun v wr=>WLoop w wr g T (m++l) v) (fun v _=>sliceLen v)
 case atStart =>
  have hk0:Keeps [g] w (w5.setCell ⟨g,72,none⟩ (.int .i64 0)):=(HK4.out.trans (G:=[g]) hk5 (fun j hj=>.inl hj)).setCell (.inl (by simp)) _
  have ev:∀ cc,Value.slice a2 (l.length - (64 - k)) cc=Value.slice a2 (l.drop (64 - k)).length cc:=fun cc=>by rw [List.length_drop]
  rw [ev]
  refine ⟨m++l.take (64 - k),l.drop (64 - k),a2,c2,rfl,by rw [List.append_assoc,List.take_append_drop],HFULL.out.2.2,HB2.out.keeps hk0 (fun j hj=>by simpa using HF2.out j hj),?_,hm2,HF2.out,⟨R,by rw [HFULL.out.1];exact HI5.out.set_have 0⟩,hk0⟩
  obtain ⟨_,_,e,hh,_⟩:=HB2.out.form
  injection e with _ _ e3
  rw [e3];exact hh
 case round =>
  obtain ⟨m1,l1,a1,c1,rfl,hal,hm1,hv1,hlc1,hc1,hvg1,⟨r1,hI1⟩,hk1⟩:=hrel.ex
  have hc1':=hc1
  unfold maxLen at hc1'
  clear hrel
  by_cases hlt:64≤l1.length
  ·obtain ⟨go,so,rfl,hgo,hrg⟩:=hv1.at (by omega)
   have b1:decide ((64:Int)≤(l1.length:Int))=true:=by simp;omega
   have hrg64:wr.rangeAt go so ((l1.take 64).map B):=fun j v hj=>by
    refine hrg j v ?_
    rw [List.map_take,List.getElem?_take] at hj
    split at hj
    ·exact hj
    ·cases hj
   have ht64:(l1.take 64).length=64:=by rw [List.length_take];omega
   have hst:=step_any (s:=hState m1) (rest:=r1.map B++[.int .i64 (0:Nat),.int .u64 T]) hrg64 ht64 hgo (show 64≤c1 by omega) (by omega) (hState_ok m1) hI1.row ((HTABS.out.keeps hk1 (by simp;exact Ne.symm HG.out.1) (by simp;exact Ne.symm HG.out.2))) HG.out.1
   obtain ⟨a2,c2,hrun2,hb2,hm2,hf2⟩:=sl_from hv1 hlt hlc1 hc1 (F:=fun k=>k≠g) hvg1
   have hfull:=hState_full (m:=m1) (l:=l1.take 64) (by rw [hm1,ht64])
   have e0:hTail m1=[]:=List.eq_nil_of_length_eq_zero (by rw [hTail_length,hm1])
   rw [e0,List.nil_append] at hfull
   have HST:=Lib.hid hst
   have HRUN2:=Lib.hid hrun2
   have HB2:=Lib.hid hb2
   have HF2:=Lib.hid hf2
   have HFULL:=Lib.hid hfull
   have HK1:=Lib.hid hk1
   have HI1:=Lib.hid hI1
   have HAL:=Lib.hid hal
   have HVG1:=Lib.hid hvg1
   clear hst hrun2 hb2 hf2 hfull hk1 hI1 hal hvg1 hv1 hrg hrg64 e0
   go_upto_region 9 with (first | (refine wl_slice rfl 36 (.tmp 59) none (some (.const (.int .i64 64))) none rfl ?_;refine ⟨_,_,sl_run_head _ _ _ _ 64 (by omega),?_⟩;try simp only [zA,zB,zC,zD,zE,zF,zG,zH]) | (go_at_call 101;refine HST.out.mono ?_;rintro e w2 ⟨rfl,hrow2,hk2⟩))
   go_wp2_with (first | (refine wl_slice rfl 36 (.tmp 59) none (some (.const (.int .i64 64))) none rfl ?_;refine ⟨_,_,sl_run_head _ _ _ _ 64 (by omega),?_⟩;try simp only [zA,zB,zC,zD,zE,zF,zG,zH]) | (go_at_call 101;refine HST.out.mono ?_;rintro e w2 ⟨rfl,hrow2,hk2⟩) | (refine wl_slice rfl 36 (.tmp 62) (some (.const (.int .i64 64))) none none rfl ?_;refine ⟨_,_,HRUN2.out _,?_⟩;try simp only [zA,zB,zC,zD,zE,zF,zG,zH]))
   go_roundw
   case rel =>
    refine ⟨m1++l1.take 64,l1.drop 64,a2,c2,rfl,?_,HFULL.out.2.2,?_,?_,hm2,HF2.out,⟨r1,⟨?_,HI1.out.len⟩⟩,?_⟩
    ·rw [List.append_assoc,List.take_append_drop];exact HAL.out
    ·exact HB2.out.keeps hk2 (fun k hk=>by simpa using HF2.out k hk)
    ·exact (by obtain ⟨_,_,e,h,_⟩:=HB2.out.form;injection e with _ _ e3;rw [e3];exact h)
    ·rw [HFULL.out.1];exact hrow2
    ·exact HK1.out.trans (G:=[g]) hk2 (fun j hj=>.inl hj)
   case measure=>simp [sliceLen];omega
  ·have b1:decide ((64:Int)≤(l1.length:Int))=false:=by simp;omega
   have hcp:=hI1.copy hv1 0 64 64 rfl 3
   have htk:l1.take 64=l1:=List.take_of_length_le (by omega)
   have hmn:min l1.length 64=l1.length:=by omega
   rw [htk,hmn] at hcp
   simp only [Nat.add_zero] at hcp
   obtain ⟨w3,hrun3,hI3,hk3⟩:=hcp
   have hpart:=hState_part (m:=m1) (l:=l1) (by omega)
   have e0:hTail m1=[]:=List.eq_nil_of_length_eq_zero (by rw [hTail_length,hm1])
   rw [e0,List.nil_append] at hpart
   have hlen1:(m++l).length % 64=l1.length:=by rw [← hal,List.length_append];omega
   have hHAT:HashAt (w3.setCell ⟨g,72,none⟩ (.int .i64 (l1.length:Nat))) g (m++l):=by
    refine ⟨over r1 0 l1,?_,?_⟩
    ·rw [hlen1,← HHT.out,← hal,hpart.1]
     exact hI3.set_have _
    ·rw [hlen1,← hal,hpart.2]
     exact over_front (by rw [hI1.len];omega)
   have hKK:Keeps [g] w (w3.setCell ⟨g,72,none⟩ (.int .i64 (l1.length:Nat))):=(hk1.trans (G:=[g]) hk3 (fun j hj=>.inl hj)).setCell (.inl (by simp)) _
   have f72:=hI3.free 72
   have c72:=hI3.have_cell
   have HHAT:=Lib.hid hHAT
   have HKK:=Lib.hid hKK
   have HRUN3:=Lib.hid (run_builtin_copy hrun3)
   clear hHAT hKK hrun3 hI3 hk3 hpart hlen1 hk1 hI1 hal hvg1 hv1 e0 htk hmn
   go_wp2_with (first | (refine wl_builtin rfl .copy #[.tmp 68,.tmp 69] #[36,36] rfl ?_;simp only [List.map_toArray,List.map_cons,List.map_nil];refine ⟨_,_,HRUN3.out,?_⟩;try simp only [zA,zB,zC,zD,zE,zF,zG,zH]))
   refine Go.Great.bodyPost_end0 rfl rfl ⟨rfl,?_,?_⟩
   ·exact HHAT.out
   ·exact HKK.out
theorem write_any {w:World} {g:Nat} {m l:List UInt8} {v:Value} (h:HashAt w g m) (hv:BytesAt w v l) (hvg:∀ k,v.elemBlock=some k→k≠g) (ht:Tabs w) (hg1:g≠2) (hg2:g≠0) :
  Calls Tryz.prog 82 #[.pointer (some ⟨g,0,none⟩),v] w fun e w'=>e=.returned (.tuple #[])∧HashAt w' g (m++l)∧Keeps [g] w w':=by
 by_cases h0:m.length % 64=0
 ·exact write_zero h h0 hv hvg ht hg1 hg2
 ·by_cases h1:m.length % 64+l.length < 64
  ·exact write_part h (by omega) h1 hv hvg ht hg1 hg2
  ·exact write_full h (by omega) (by omega) hv hvg ht hg1 hg2
open Go.RowKit
def DStep (w:World) (b:Nat) (F:List Nat) (d':D) (w':World):Prop:=∃ F',DiskAt w' b d' F'∧From w F F'∧Keeps F w w'
theorem DStep.trans {w w1 w2:World} {b:Nat} {F:List Nat} {d2:D} {F1:List Nat} (hf:From w F F1) (hk:Keeps F w w1) (h:DStep w1 b F1 d2 w2):DStep w b F d2 w2:=by
 obtain ⟨F2,h2,f2,k2⟩:=h
 exact ⟨F2,h2,hf.trans f2 hk.size,hk.trans k2 hf⟩
theorem dRead_step {w:World} {b:Nat} {d:D} {F:List Nat} (page:Nat) (hI:DiskAt w b d F) (hd:d.dead=false) (hp:page < d.n) :
  Calls Tryz.prog 66 #[.pointer (some ⟨b,0,none⟩),.int .i64 page] w fun e w'=>∃ g cap,e=.returned (.tuple #[.slice (some ⟨g,0,none⟩) 256 cap,.int .i64 0])∧w.heap.size≤g ∧
   OwnB w' (.slice (some ⟨g,0,none⟩) 256 cap) (d.read page)∧DiskAt w' b { d with reads:=wrap64 (d.reads+1) } F∧Keeps F w w':=by
 obtain ⟨bp,qv,bm,hI,rfl⟩:=hI
 refine (dRead_ok page hI hd hp).mono ?_
 rintro e w' ⟨g,cap,he,hg,ho,hI',hk⟩
 exact ⟨g,cap,he,hg,ho,⟨bp,qv,bm,hI',rfl⟩,hk.mono (fun k hk=>.inl (by simp at hk;simp [hk]))⟩
theorem qv_from {w:World} {b bp bm:Nat} {qv qv':Value} (h:qv'.ownBlock=qv.ownBlock∨∃ g,qv'.ownBlock=some g∧w.heap.size≤g):From w (b :: bp :: bm :: qv.ownBlock.toList) (b :: bp :: bm :: qv'.ownBlock.toList):=by
 intro k hk
 rcases h with h | ⟨g,h,hg⟩
 ·rw [h] at hk;exact .inl hk
 ·rw [h] at hk
  simp only [List.mem_cons,Option.toList_some,List.not_mem_nil,or_false] at hk
  rcases hk with rfl | rfl | rfl | rfl
  ·exact .inl (by simp)
  ·exact .inl (by simp)
  ·exact .inl (by simp)
  ·exact .inr hg
theorem dWrite_step {w:World} {b:Nat} {d:D} {F:List Nat} (page:Nat) {g o c:Nat} {data:List UInt8} (hI:DiskAt w b d F) (hd:d.dead=false) (hp:page < d.n) (hl:data.length=256)
  (hg:g < w.heap.size) (hr:w.rangeAt g o (data.map B)) (hc:256≤c) (hq:d.q.length < 4294967296) :
  Calls Tryz.prog 70 #[.pointer (some ⟨b,0,none⟩),.int .i64 page,.slice (some ⟨g,o,none⟩) 256 c] w fun e w'=>e=.returned (.int .i64 (if d.armed=1 then 2 else 0))∧DStep w b F (d.write page data) w':=by
 obtain ⟨bp,qv,bm,hI,rfl⟩:=hI
 refine (dWrite_ok page hI hd hp hl hg hr hc hq).mono ?_
 rintro e w' ⟨he,qv',hI',hk,ho⟩
 exact ⟨he,_,⟨bp,qv',bm,hI',rfl⟩,qv_from ho,hk⟩
def D.sync (d:D):D:={ d.act with img:=synced d.img d.q,q:=[],syncs:=wrap64 (d.syncs+1) }
theorem dSync_step {w:World} {b:Nat} {d:D} {F:List Nat} (hI:DiskAt w b d F) (hd:d.dead=false) (ha:d.armed≠1) :
  Calls Tryz.prog 44 #[.pointer (some ⟨b,0,none⟩)] w fun e w'=>e=.returned (.int .i64 0)∧DStep w b F d.sync w':=by
 obtain ⟨bp,qv,bm,hI,rfl⟩:=hI
 refine (dSync_ok hI hd ha).mono ?_
 rintro e w' ⟨he,hI',hk⟩
 exact ⟨he,_,⟨bp,_,bm,hI',rfl⟩,fun k hk=>.inl (by simp [Value.ownBlock] at hk;rcases hk with rfl | rfl | rfl <;> simp),hk.mono (fun k hk=>.inl (by simp at hk;rcases hk with rfl | rfl | rfl <;> simp))⟩
theorem DiskAt.dcells {w:World} {b:Nat} {d:D} {F:List Nat} (h:DiskAt w b d F):∃ bp,w.cell? ⟨b,4,none⟩=some (.slice (some ⟨bp,0,none⟩) d.n d.n)∧w.cell? ⟨b,8,none⟩=some (.bool d.dead)∧w.cell? ⟨b,9,none⟩=some (.int .i64 d.epoch)∧w.cell? ⟨b,7,none⟩=some (.int .i64 d.armed)∧b∈F:=by
 obtain ⟨bp,qv,bm,hI,rfl⟩:=h
 obtain ⟨c0,c1,c2,c3,c4,c5,c6,c7,c8,c9⟩:=hI.cells
 exact ⟨bp,c4,c8,c9,c7,by simp⟩
structure Fi where
 sup:Sup
 next:Int
 mine:Int
def fiC (b:Nat) (f:Fi):List Value:=[.pointer (some ⟨b,0,none⟩),.int .i64 f.sup.width,.int .i64 f.sup.gen,.int .i64 f.sup.mark,.int .i64 f.sup.head,.int .i64 f.sup.pages,.int .i64 f.next,.int .i64 f.mine]
def FileAt (w:World) (bf b:Nat) (f:Fi):Prop:=w.heap[bf]?=some (.cells (fiC b f).toArray 117 (0,0))
theorem FileAt.keeps {w w':World} {bf b:Nat} {f:Fi} {F:List Nat} (h:FileAt w bf b f) (hk:Keeps F w w') (hg:bf ∉ F):FileAt w' bf b f:=(hk.block bf (lt_of_heap h) hg).trans h
theorem FileAt.cells {w:World} {bf b:Nat} {f:Fi} (h:FileAt w bf b f):w.cell? ⟨bf,0,none⟩=some (.pointer (some ⟨b,0,none⟩))∧w.cell? ⟨bf,3,none⟩=some (.int .i64 f.sup.mark)∧w.cell? ⟨bf,6,none⟩=some (.int .i64 f.next)∧w.cell? ⟨bf,7,none⟩=some (.int .i64 f.mine):=by
 refine ⟨?_,?_,?_,?_⟩ <;> (rw [cell_of_row w bf _ _ _ _ h];rfl)
theorem FileAt.range {w:World} {bf b:Nat} {f:Fi} (h:FileAt w bf b f):w.rangeAt bf 1 (supC f.sup):=by
 have:fiC b f=[.pointer (some ⟨b,0,none⟩)]++supC f.sup++[.int .i64 f.next,.int .i64 f.mine]:=rfl
 unfold FileAt at h
 rw [this] at h
 exact rangeAt_part h
theorem FileAt.free {w:World} {bf b:Nat} {f:Fi} (h:FileAt w bf b f) (j:Nat):w.frozen? ⟨bf,j,none⟩=false:=frozen_of_row w bf j _ _ h
def liveE (d:D) (f:Fi):Int:=if d.epoch≠f.mine then 3 else if d.dead=true then 2 else 0
set_option maxRecDepth 100000 in
set_option maxHeartbeats 800000 in
theorem fLive_any {w:World} {bf b:Nat} {f:Fi} {d:D} {F:List Nat} (hf:FileAt w bf b f) (hd:DiskAt w b d F) :
  Calls Tryz.prog 47 #[.pointer (some ⟨bf,0,none⟩)] w fun e w'=>e=.returned (.int .i64 (liveE d f))∧Keeps [] w w':=by
 obtain ⟨c0,_,_,c7⟩:=hf.cells
 obtain ⟨bp,_,d8,d9,_⟩:=hd.dcells
 obtain ⟨L,hL⟩:∃ L,L=liveE d f:=⟨_,rfl⟩
 rw [← hL]
 unfold liveE at hL
 obtain ⟨ep,hep⟩:∃ x,x=d.epoch:=⟨_,rfl⟩
 obtain ⟨dd,hdd⟩:∃ x,x=d.dead:=⟨_,rfl⟩
 obtain ⟨mi,hmi⟩:∃ x,x=f.mine:=⟨_,rfl⟩
 rw [← hep] at d9 hL
 rw [← hdd] at d8 hL
 rw [← hmi] at c7 hL
 have HL:=Lib.hid hL
 have CE:=Lib.hid (fun (wx:World) (h:wx.cell? ⟨b,9,none⟩=some (.int .i64 ep))=>dEpoch_any h)
 clear hf hd hL hep hdd hmi
 go_enter Tryz.func47,Tryz.ntmps47
 go_upto_region 1 with fail
 refine wp_region_held_drew (S:=(fun w'=>w'.cell? ⟨bf,0,none⟩=some (.pointer (some ⟨b,0,none⟩))∧w'.cell? ⟨bf,7,none⟩=some (.int .i64 mi)∧w'.cell? ⟨b,9,none⟩=some (.int .i64 ep))) (by kernel_rfl) ?_ (fun hHeld=>?_)
 ·exact ⟨c0,c7,d9⟩
 refine tk 0 ?_
 refine tk 1 ?_
 refine tk 2 ?_
 refine tk 3 ?_
 refine hc_take (i:=4) (v:=.int .i64 ep) rfl (by kernel_rfl) (by kernel_rfl) (by kernel_rfl) (fun _ _ _ h=>h) (yieldsC_call (by rfl) 77 _ _ rfl Tryz.f77 Tryz.func77 (by kernel_rfl) rfl #[.pointer (some ⟨b,0,none⟩)] (by simp [Act.eval]) (fun w0 hS=>CE.out w0 hS.2.2)) (by assumption) ?_
 try simp only [zA,zB,zC,zD,zE,zF,zG,zH]
 refine tk 5 ?_
 refine tk 6 ?_
 refine tk 7 ?_
 refine tk 8 ?_
 refine tk 9 ?_
 refine tk 10 ?_
 refine wpAnyH_done (by kernel_rfl) ?_ _
 clear hHeld CE
 have k0:w.drew.cell? ⟨bf,0,none⟩=some (.pointer (some ⟨b,0,none⟩)):=c0
 have k8:w.drew.cell? ⟨b,8,none⟩=some (.bool dd):=d8
 have CP:=Lib.hid (dPower_any k8)
 by_cases h:ep=mi
 ·subst h
  cases dd with
  | true =>
   have HU:=Lib.hid (show L=2 by rw [HL.out];simp)
   clear HL
   go_wp2_with (go_at_call 39;refine CP.out.mono ?_;rintro e w' ⟨rfl,rfl⟩)
   go_ret
   exact ⟨by rw [HU.out];rfl,(Keeps.refl _ _).drew⟩
  | false =>
   have HU:=Lib.hid (show L=0 by rw [HL.out];simp)
   clear HL
   go_wp2_with (go_at_call 39;refine CP.out.mono ?_;rintro e w' ⟨rfl,rfl⟩)
   go_ret
   exact ⟨by rw [HU.out];rfl,(Keeps.refl _ _).drew⟩
 ·have HU:=Lib.hid (show L=3 by rw [HL.out,if_pos h])
  have q:(ep != mi)=true:=by simpa using h
  clear HL CP
  go_wp2_with fail
  go_ret
  exact ⟨by rw [HU.out];rfl,(Keeps.refl _ _).drew⟩
open Go.RowKit
theorem DiskAt.notin {w:World} {b:Nat} {d:D} {F:List Nat} {g:Nat} (h:DiskAt w b d F) (hg:w.heap.size≤g):g ∉ F:=fun hm=>by have:=h.lt g hm;omega
set_option maxRecDepth 100000 in
set_option maxHeartbeats 800000 in
theorem slots_any {w:World} {b:Nat} {d:D} {F:List Nat} (hd:DiskAt w b d F) (hp:d.dead=false) :
  Calls Tryz.prog 40 #[.pointer (some ⟨b,0,none⟩)] w fun e w'=>e=.returned (.tuple #[supV (chooseL (d.read 0) (d.read 1)).2,.int .i64 (chooseL (d.read 0) (d.read 1)).1])∧DStep w b F { d with reads:=wrap64 (wrap64 (d.reads+1)+1) } w':=by
 obtain ⟨R,hR⟩:∃ R,R=chooseL (d.read 0) (d.read 1):=⟨_,rfl⟩
 rw [← hR]
 have hn:=hd.ok.1
 obtain ⟨w0,hw0⟩:∃ w0,w0=w.alloc (.cells #[.int .i64 0,.int .i64 0,.int .i64 0,.int .i64 0,.int .i64 0] 42 (0,0)):=⟨_,rfl⟩
 obtain ⟨g0,hg0⟩:∃ g,g=w.heap.size:=⟨_,rfl⟩
 have hz0:SupAt w0 g0 zSup:=by rw [hw0];exact heap_new_at hg0
 have hk0:Keeps [] w w0:=by rw [hw0];exact (Keeps.refl _ _).alloc _
 have hs0:g0 < w0.heap.size:=lt_of_heap hz0
 have hd0:=hd.keeps hk0 (by simp)
 have nF:g0 ∉ F:=hd.notin (by omega)
 obtain ⟨_,_,d8,_,_⟩:=hd0.dcells
 rw [hp] at d8
 have CP:=Lib.hid (dPower_any d8)
 have C1:=Lib.hid (dRead_step 0 hd0 hp (by omega))
 have HR:=Lib.hid hR
 have HW0:=Lib.hid hw0
 have HG:=Lib.hid hg0
 have HK0:=Lib.hid hk0
 have HZ0:=Lib.hid hz0
 have HS0:=Lib.hid hs0
 have NF:=Lib.hid nF
 have HP:=Lib.hid hp
 have HN:=Lib.hid hn
 have HD0:=Lib.hid hd0
 clear hd hR hw0 hg0 hz0 hk0 hs0 hd0 nF hp hn d8
 go_enter Tryz.func40,Tryz.ntmps40
 go_upto_region 1 with fail
 rw [← HW0.out,← HG.out]
 go_wp2_with (go_at_call 39;refine CP.out.mono ?_;rintro e w' ⟨rfl,rfl⟩)
 refine C1.out.mono ?_
 rintro e w1 ⟨ga,ca,rfl,hga,hoa,hd1,hk1⟩
 have hz1:=HZ0.out.keeps hk1 NF.out
 have nA:ga ∉ F:=HD0.out.notin hga
 have C2:=Lib.hid (dRead_step 1 hd1 (by exact HP.out) (by have:=HN.out;show 1 < d.n;omega))
 have HOA:=Lib.hid hoa
 have HK1:=Lib.hid hk1
 have HZ1:=Lib.hid hz1
 have NA:=Lib.hid nA
 clear hoa hk1 hz1 nA hd1 hga C1 CP
 go_wp2_with fail
 refine C2.out.mono ?_
 rintro e w2 ⟨gb,cb,rfl,hgb,hob,hd2,hk2⟩
 have hoa2:OwnB w2 (.slice (some ⟨ga,0,none⟩) 256 ca) (d.read 0):=ownsRow_keep HOA.out (fun k hk=>by
  simp only [Value.ownBlock,Option.some.injEq] at hk
  subst hk
  exact hk2.block _ (World.ownsRow.lt HOA.out _ (by rfl)).2 NA.out)
 have C3:=Lib.hid (choose_any (ownB_bytes hoa2) (ownB_bytes hob))
 have hz2:=HZ1.out.keeps hk2 NF.out
 have HZ2:=Lib.hid hz2
 have HD2:=Lib.hid hd2
 have HK2:=Lib.hid (HK1.out.trans (G:=F) hk2 (fun k hk=>.inl hk))
 clear hob hoa2 hz2 hd2 hk2 hgb HOA HZ1 HK1 C2
 have e1:({ d with reads:=wrap64 (d.reads+1) }:D).read 1=d.read 1:=rfl
 rw [e1,← HR.out] at C3
 clear e1
 go_wp2_with fail
 refine C3.out.mono ?_
 rintro e w3 ⟨rfl,hk3⟩
 obtain ⟨st,ss⟩:=(HZ2.out.keeps hk3 (by simp)).store R.2
 have ST:=Lib.hid st
 have SS:=Lib.hid ss
 have HK3:=Lib.hid hk3
 clear hk3 st ss C3
 go_wp2_with (first | (refine wl_store rfl 42 (.tmp 2) (.tmp 32) rfl ?_;refine ⟨_,ST.out,?_⟩;try simp only [zA,zB,zC,zD,zE,zF,zG,zH]))
 refine bodyPost_ret (results_sup2 rfl rfl rfl SS.out) rfl ⟨rfl,F,?_,From.refl _ _,?_⟩
 ·have h3:=HD2.out.keeps HK3.out (by simp)
  exact h3.keep (fun k hk=>heap_setCells_other _ _ _ (fun e=>by subst e;exact NF.out hk) _ _)
 ·have k1:Keeps F w w0:=HK0.out.mono (by simp)
  have k2:Keeps F w w3:=(k1.trans (G:=F) HK2.out (fun k hk=>.inl hk)).trans (G:=[]) HK3.out (by simp)
  exact k2.setCells (b:=g0) (.inr (Nat.le_of_eq HG.out.symm)) _ _
open Go.RowKit
structure Laid (w:World) (gs gd b:Nat) (s:Sup):Prop where
 sup:SupAt w gs s
 ptr:w.heap[gd]?=some (.cells #[.pointer (some ⟨b,0,none⟩)] 25 (0,0))
theorem Laid.keeps {w w':World} {gs gd b:Nat} {s:Sup} {F:List Nat} (h:Laid w gs gd b s) (hk:Keeps F w w') (h1:gs ∉ F) (h2:gd ∉ F):Laid w' gs gd b s :=
 ⟨h.sup.keeps hk h1,(hk.block gd (lt_of_heap h.ptr) h2).trans h.ptr⟩
def layFn (gs gd:Nat):Value:=.func (.func 68) #[] #[.pointer (some ⟨gs,0,none⟩),.pointer (some ⟨gd,0,none⟩)]
theorem lay_any {w:World} {b:Nat} (s:Sup) :
  Calls Tryz.prog 43 #[.pointer (some ⟨b,0,none⟩),supV s] w fun e w'=>∃ gs gd,e=.returned (layFn gs gd)∧Laid w' gs gd b s∧w.heap.size≤gs∧w.heap.size≤gd∧Keeps [] w w':=by
 have hmf:∀ (fn:Fn) (first cap:Array Value) (w:World),(Instr.makeFunc fn first cap).run Tryz.prog w=.ok (.func fn first cap) w:=fun _ _ _ _=>rfl
 show Calls Tryz.prog 43 #[_,.agg #[.int .i64 s.width,.int .i64 s.gen,.int .i64 s.mark,.int .i64 s.head,.int .i64 s.pages]] w _
 go_enter Tryz.func43,Tryz.ntmps43
 go_wp2_with fail
 go_ret
 refine ⟨w.heap.size+1,w.heap.size,rfl,⟨heap_new_at (by simp),(heap_old_at (by simp)).trans (heap_new_at rfl)⟩,by omega,Nat.le_refl _,((Keeps.refl _ _).alloc _).alloc _⟩
set_option maxRecDepth 100000 in
set_option maxHeartbeats 800000 in
theorem layIn_any {w:World} {gs gd b:Nat} {s:Sup} {d:D} {F:List Nat} (hL:Laid w gs gd b s) (hs:s.valid=true) (hd:DiskAt w b d F) (hp:d.dead=false) (hq:d.q.length < 4294967296) :
  Calls Tryz.prog 68 #[.pointer (some ⟨gs,0,none⟩),.pointer (some ⟨gd,0,none⟩)] w fun e w'=>e=.returned (.int .i64 (if d.armed=1 then 2 else 0))∧DStep w b F (d.write (s.gen % 2).toNat (supL s)) w':=by
 have hn:=hd.ok.1
 have hlt:=hd.lt
 obtain ⟨hg0,hg1⟩:=valid_inGen hs
 obtain ⟨m,hm⟩:∃ m:Nat,(m:Int)=s.gen % 2:=⟨(s.gen % 2).toNat,by omega⟩
 have hm2:m < 2:=by omega
 have em:(s.gen % 2).toNat=m:=by omega
 rw [em]
 have CP:=Lib.hid (packSuper_any (w:=w) hs)
 have HLD:=Lib.hid hL.sup.load
 have HL:=Lib.hid hL
 have HD:=Lib.hid hd
 have HM:=Lib.hid hm
 have HP:=Lib.hid hp
 have HQ:=Lib.hid hq
 have HLT:=Lib.hid hlt
 have HN:=Lib.hid hn
 have HM2:=Lib.hid hm2
 clear hL hs hd hp hq hm hn hlt hg1 em hm2
 go_enter Tryz.func68,Tryz.ntmps68
 go_wp2_with (first | (refine wl_load rfl 42 (.tmp 0) rfl ?_;refine ⟨_,_,HLD.out,?_⟩;try simp only [zA,zB,zC,zD,zE,zF,zG,zH]))
 refine CP.out.mono ?_
 rintro e w1 ⟨g,rfl,hb,hg,hk⟩
 have hL1:=HL.out.keeps hk (by simp) (by simp)
 have cd:w1.cell? ⟨gd,0,none⟩=some (.pointer (some ⟨b,0,none⟩)):=by rw [cell_of_row w1 gd 0 _ _ _ hL1.ptr];rfl
 have cg:=hL1.sup.cells.2.1
 have hd1:=HD.out.keeps hk (by simp)
 have CW:=Lib.hid (dWrite_step (w:=w1) m (g:=g) (o:=0) (c:=256) (data:=supL s) hd1 HP.out (by have:=HN.out;have:=HM2.out;omega) (supL_length s) hb.lt (rangeAt_all hb) (Nat.le_refl _) HQ.out)
 have hm':s.gen % 2=(m:Int):=HM.out.symm
 have HK:=Lib.hid hk
 clear hb hg hk hL1 hd1 CP HLD
 go_wp2_with fail
 refine CW.out.mono ?_
 rintro e w2 ⟨rfl,hst⟩
 have HST:=Lib.hid hst
 clear hst CW
 go_wp2_with fail
 all_goals
  go_ret
  refine ⟨rfl,?_⟩
  exact HST.out.trans (F1:=F) (From.refl _ _) (HK.out.mono (by simp))
open Go.RowKit
def syncFn (b:Nat):Value:=.func (.func 44) #[.pointer (some ⟨b,0,none⟩)] #[]
structure D.calm (d:D):Prop where
 dead:d.dead=false
 armed:d.armed=0
theorem D.calm.act {d:D} (h:d.calm):d.act=d:=by simp [D.act,h.armed]
theorem D.calm.write {d:D} (h:d.calm) (p:Nat) (x:List UInt8):(d.write p x).calm∧d.write p x={ d with q:=d.q++[(p,x)],writes:=wrap64 (d.writes+1) }:=by
 have e:d.write p x={ d with q:=d.q++[(p,x)],writes:=wrap64 (d.writes+1) }:=by
  unfold D.write
  exact D.calm.act ⟨h.dead,h.armed⟩
 exact ⟨by rw [e];exact ⟨h.dead,h.armed⟩,e⟩
theorem D.calm.sync {d:D} (h:d.calm):d.sync.calm∧d.sync={ d with img:=synced d.img d.q,q:=[],syncs:=wrap64 (d.syncs+1) }:=by
 have e:d.sync={ d with img:=synced d.img d.q,q:=[],syncs:=wrap64 (d.syncs+1) }:=by
  unfold D.sync
  rw [h.act]
 exact ⟨by rw [e];exact ⟨h.dead,h.armed⟩,e⟩
def slot (s:Sup):Nat:=(s.gen % 2).toNat
def stepD (d:D) (s1 s2:Sup):Nat→D
 | 0=>d
 | 1=>d.write (slot s1) (supL s1)
 | 2=>(d.write (slot s1) (supL s1)).sync
 | 3=>((d.write (slot s1) (supL s1)).sync).write (slot s2) (supL s2)
 | _=>(((d.write (slot s1) (supL s1)).sync).write (slot s2) (supL s2)).sync
theorem stepD_calm {d:D} (h:d.calm) (s1 s2:Sup):∀ k,(stepD d s1 s2 k).calm
 | 0=>h
 | 1=>(h.write _ _).1
 | 2=>(h.write _ _).1.sync.1
 | 3=>((h.write _ _).1.sync.1.write _ _).1
 | 4=>((h.write _ _).1.sync.1.write _ _).1.sync.1
 | _+5=>((h.write _ _).1.sync.1.write _ _).1.sync.1
set_option maxRecDepth 100000 in
set_option maxHeartbeats 800000 in
theorem inOrder_four {w:World} {gq g1 e1 g2 e2 b:Nat} {s1 s2:Sup} {d:D} {F:List Nat} (hq:w.heap[gq]?=some (.cells #[layFn g1 e1,syncFn b,layFn g2 e2,syncFn b] 110 (0,0))) (h1:Laid w g1 e1 b s1) (h2:Laid w g2 e2 b s2)
  (v1:s1.valid=true) (v2:s2.valid=true) (hd:DiskAt w b d F) (hc:d.calm) (hl:d.q.length < 4294967295) (nq:gq ∉ F) (n1:g1 ∉ F∧e1 ∉ F) (n2:g2 ∉ F∧e2 ∉ F) :
  Calls Tryz.prog 42 #[.slice (some ⟨gq,0,none⟩) 4 4] w fun e w'=>e=.returned (.int .i64 0)∧DStep w b F (stepD d s1 s2 4) w':=by
 have hcell:∀ wx,Keeps F w wx→wx.cell? ⟨gq,0,none⟩=some (.func (.func 68) #[] #[.pointer (some ⟨g1,0,none⟩),.pointer (some ⟨e1,0,none⟩)])∧wx.cell? ⟨gq,1,none⟩=some (.func (.func 44) #[.pointer (some ⟨b,0,none⟩)] #[])∧wx.cell? ⟨gq,2,none⟩=some (.func (.func 68) #[] #[.pointer (some ⟨g2,0,none⟩),.pointer (some ⟨e2,0,none⟩)])∧wx.cell? ⟨gq,3,none⟩=some (.func (.func 44) #[.pointer (some ⟨b,0,none⟩)] #[])∧Laid wx g1 e1 b s1∧Laid wx g2 e2 b s2:=fun wx hk=>by
  have h:=(hk.block gq (lt_of_heap hq) nq).trans hq
  refine ⟨?_,?_,?_,?_,h1.keeps hk n1.1 n1.2,h2.keeps hk n2.1 n2.2⟩ <;> (rw [cell_of_row wx gq _ _ _ _ h];rfl)
 have HC:=Lib.hid hcell
 have HD:=Lib.hid hd
 have HCM:=Lib.hid hc
 have HV:=Lib.hid (And.intro v1 v2)
 have HL:=Lib.hid hl
 clear hq h1 h2 v1 v2 hd hc nq n1 n2 hcell hl
 go_enter Tryz.func42,Tryz.ntmps42
 go_wp2_with fail
 go_loopw [8] (fun iv wr=>∃ (k:Nat) (Fk:List Nat),k≤4∧iv=.int .i64 k∧DiskAt wr b (stepD d s1 s2 k) Fk∧From w F Fk∧Keeps F w wr) (fun iv _=>4 - (intOf iv).toNat)
 case atStart=>exact ⟨0,F,Nat.zero_le _,rfl,HD.out,From.refl _ _,Keeps.refl _ _⟩
 case round =>
  obtain ⟨k,Fk,hk,rfl,hdk,hfk,hkk⟩:=hrel
  obtain ⟨c0,c1,c2,c3,l1,l2⟩:=HC.out wr hkk
  have HDK:=Lib.hid hdk
  have HFK:=Lib.hid hfk
  have HKK:=Lib.hid hkk
  have L1:=Lib.hid l1
  have L2:=Lib.hid l2
  have cm:=Lib.hid (stepD_calm HCM.out s1 s2 k)
  clear hdk hfk hkk l1 l2
  match k,hk with
  | 0,_ =>
   have C:=Lib.hid (layIn_any L1.out HV.out.1 HDK.out cm.out.dead (by have:=HL.out;show d.q.length < _;omega))
   have ha:(stepD d s1 s2 0).armed=0:=cm.out.armed
   rw [ha] at C
   clear c1 c2 c3 cm ha
   go_wp2_with fail
   refine C.out.mono ?_
   rintro e w1 ⟨rfl,F1,hd1,hf1,hk1⟩
   have HR:=Lib.hid (And.intro hd1 (And.intro (HFK.out.trans hf1 HKK.out.size) (HKK.out.trans hk1 HFK.out)))
   clear hd1 hf1 hk1 C
   go_wp2_with fail
   go_roundw
   case rel=>exact ⟨1,F1,by omega,by go_num,HR.out⟩
   case measure=>simp [intOf]
  | 1,_ =>
   have C:=Lib.hid (dSync_step HDK.out cm.out.dead (by rw [cm.out.armed];omega))
   clear c0 c2 c3 cm
   go_wp2_with fail
   refine C.out.mono ?_
   rintro e w1 ⟨rfl,F1,hd1,hf1,hk1⟩
   have HR:=Lib.hid (And.intro hd1 (And.intro (HFK.out.trans hf1 HKK.out.size) (HKK.out.trans hk1 HFK.out)))
   clear hd1 hf1 hk1 C
   go_wp2_with fail
   go_roundw
   case rel=>exact ⟨2,F1,by omega,by go_num,HR.out⟩
   case measure=>simp [intOf]
  | 2,_ =>
   have C:=Lib.hid (layIn_any L2.out HV.out.2 HDK.out cm.out.dead (by show ([]:List (Nat × List UInt8)).length < _;simp))
   have ha:(stepD d s1 s2 2).armed=0:=cm.out.armed
   rw [ha] at C
   clear c0 c1 c3 cm ha
   go_wp2_with fail
   refine C.out.mono ?_
   rintro e w1 ⟨rfl,F1,hd1,hf1,hk1⟩
   have HR:=Lib.hid (And.intro hd1 (And.intro (HFK.out.trans hf1 HKK.out.size) (HKK.out.trans hk1 HFK.out)))
   clear hd1 hf1 hk1 C
   go_wp2_with fail
   go_roundw
   case rel=>exact ⟨3,F1,by omega,by go_num,HR.out⟩
   case measure=>simp [intOf]
  | 3,_ =>
   have C:=Lib.hid (dSync_step HDK.out cm.out.dead (by rw [cm.out.armed];omega))
   clear c0 c1 c2 cm
   go_wp2_with fail
   refine C.out.mono ?_
   rintro e w1 ⟨rfl,F1,hd1,hf1,hk1⟩
   have HR:=Lib.hid (And.intro hd1 (And.intro (HFK.out.trans hf1 HKK.out.size) (HKK.out.trans hk1 HFK.out)))
   clear hd1 hf1 hk1 C
   go_wp2_with fail
   go_roundw
   case rel=>exact ⟨4,F1,by omega,by go_num,HR.out⟩
   case measure=>simp [intOf]
  | 4,_ =>
   clear c0 c1 c2 c3 cm
   go_wp2_with fail
   go_ret
   exact ⟨rfl,Fk,HDK.out,HFK.out,HKK.out⟩
end Go.Proofs.YtakaocenbempmaaGreatDoor
