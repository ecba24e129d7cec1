/-
  Lemmas of a claim, bundle L: XFrD XFrE XFrF XFrG.
-/
import Derived.Laws.IdiomStrings
import Derived.Test.YtakaocenbempmaaGreatDoorPfG
import Derived.Test.YtakaocenbempmaaGreatDoorPfB
set_option linter.unusedVariables false
set_option linter.unusedSimpArgs false
namespace Go.Proofs.YtakaocenbempmaaGreatDoor
open Go.RowKit
theorem size_sector:(Tryz.prog.info? 186).map (·.size)=some 64:=by kernel_rfl
theorem Blk.part {w:World} {g:Nat} {t:TypeId} {l:List UInt8} (h:Blk w g t l) (o n c:Nat) (ho:o+n≤l.length) (hc:n≤c) (hm:c≤maxLen):BytesAt w (.slice (some ⟨g,o,none⟩) n c) ((l.drop o).take n):=by
 have e:((l.drop o).take n).length=n:=by rw [List.length_take,List.length_drop];omega
 refine .inr ⟨g,o,c,by rw [e],by omega,hm,h.lt,fun j u hj=>?_⟩
 have hjn:j < n:=by
  have:=(List.getElem?_eq_some_iff.1 hj).1
  rw [List.length_map,e] at this
  exact this
 rw [List.getElem?_map,List.getElem?_take_of_lt hjn,List.getElem?_drop,List.getElem?_eq_getElem (by omega)] at hj
 rw [h.cell (o+j) (by omega)]
 exact hj
set_option maxRecDepth 100000 in
set_option maxHeartbeats 1600000 in
theorem unpackSuper_any {w:World} {v:Value} {l:List UInt8} (hv:BytesAt w v l) :
  Calls Tryz.prog 89 #[v] w fun e w'=>e=.returned (.tuple #[supV (unsupL l).2,.int .i64 (unsupL l).1])∧Keeps [] w w':=by
 obtain ⟨a,c,rfl,hc,hm⟩:=hv.form
 unfold maxLen at hm
 obtain ⟨n,hn⟩:∃ n,n=l.length:=⟨_,rfl⟩
 obtain ⟨g,hg⟩:∃ g,g=w.heap.size:=⟨_,rfl⟩
 obtain ⟨w1,hw1⟩:∃ w1,w1=w.alloc (.cells #[.int .i64 0,.int .i64 0,.int .i64 0,.int .i64 0,.int .i64 0] 42 (0,0)):=⟨_,rfl⟩
 have hs1:SupAt w1 g zSup:=by rw [hw1];exact heap_new_at hg
 have hk1:Keeps [] w w1:=by rw [hw1];exact (Keeps.refl _ _).alloc _
 have hg0:w.heap.size≤g:=by omega
 have HG0:=Lib.hid hg0
 have HG:=Lib.hid hg
 have HW:=Lib.hid hw1
 have HK:=Lib.hid hk1
 by_cases h256:n=256
 rotate_left 1
 ·have hu:unsupL l=(53,zSup):=by unfold unsupL;rw [if_pos (by rw [← hn];exact h256)]
  obtain ⟨st,ss⟩:=hs1.store zSup
  have ST:=Lib.hid st
  have SS:=Lib.hid ss
  have n1:((n:Int) != 256)=true:=by simp;omega
  rw [hu,← hn]
  rw [← hn] at hc
  clear hv hn hg hw1 hs1 hk1 st ss h256 hu hg0
  go_enter Tryz.func89,Tryz.ntmps89
  go_upto_region 1 with fail
  rw [← HW.out,← HG.out]
  go_wp2_with (first | (refine wl_store rfl 42 (.tmp 2) (.tmp 9) rfl ?_;refine ⟨_,ST.out,?_⟩;try simp only [zA,zB,zC,zD,zE,zF,zG,zH]))
  exact bodyPost_ret (results_sup2 rfl rfl rfl SS.out) rfl ⟨rfl,HK.out.setCells (.inr HG0.out) _ _⟩
 subst h256
 obtain ⟨gb,ob,rfl,hgb,hrb⟩:=hv.at (by omega)
 have hup:=(hv.keeps hk1 (by simp)).upto 64 (by omega)
 have CW:=Lib.hid (whole_any hup)
 have hl64:(l.take 64).length=64:=by rw [List.length_take];omega
 by_cases hwh:wholeL (l.take 64)=true
 rotate_left 1
 ·have hwf:wholeL (l.take 64)=false:=by simpa using hwh
  have hu:unsupL l=(52,zSup):=by unfold unsupL;rw [if_neg (by omega),if_pos hwf]
  rw [hwf] at CW
  rw [hu,← hn]
  rw [← hn] at hc
  have HS1:=Lib.hid hs1
  clear hv hn hg hw1 hs1 hk1 hu hup hwh hwf hl64 hrb hgb hg0
  go_enter Tryz.func89,Tryz.ntmps89
  go_upto_region 1 with fail
  rw [← HW.out,← HG.out]
  go_wp2_with fail
  refine CW.out.mono ?_
  rintro e w2 ⟨rfl,hk2⟩
  obtain ⟨st,ss⟩:=(HS1.out.keeps hk2 (by simp)).store zSup
  have ST:=Lib.hid st
  have SS:=Lib.hid ss
  have HK2:=Lib.hid (HK.out.trans (G:=[]) hk2 (by simp))
  clear hk2 st ss
  go_wp2_with (first | (refine wl_store rfl 42 (.tmp 2) (.tmp 14) rfl ?_;refine ⟨_,ST.out,?_⟩;try simp only [zA,zB,zC,zD,zE,zF,zG,zH]))
  exact bodyPost_ret (results_sup2 rfl rfl rfl SS.out) rfl ⟨rfl,HK2.out.setCells (.inr HG0.out) _ _⟩
 rw [hwh] at CW
 have hus:unsupL l=if (l.take 4 == [76,68,71,49] && zeroB ((l.drop 5).take 3) && zeroB ((l.drop 28).take 32) && zeroB ((l.drop 15).take 1))=false then (53,zSup) else
   if (⟨((l.getD 4 0).toNat:Int),(unLe ((l.drop 8).take 7):Int),(unLe ((l.drop 16).take 4):Int),(unLe ((l.drop 20).take 4):Int),(unLe ((l.drop 24).take 4):Int)⟩:Sup).valid=false then (53,zSup) else
   (0,⟨(l.getD 4 0).toNat,unLe ((l.drop 8).take 7),unLe ((l.drop 16).take 4),unLe ((l.drop 20).take 4),unLe ((l.drop 24).take 4)⟩):=by
  unfold unsupL
  rw [if_neg (by omega),if_neg (by rw [hwh];simp)]
 obtain ⟨R,hR⟩:∃ R,R=unsupL l:=⟨_,rfl⟩
 rw [← hR] at hus ⊢
 have HUS:=Lib.hid hus
 obtain ⟨L,hL⟩:∃ L,L=l.take 64:=⟨_,rfl⟩
 rw [← hL] at hl64
 have hsub:∀ o k,o+k≤64→(l.drop o).take k=(L.drop o).take k:=fun o k h=>by rw [hL,List.drop_take,List.take_take,Nat.min_eq_left (by omega)]
 have HSUB:=Lib.hid hsub
 have h4L:l.getD 4 0=L.getD 4 0:=by rw [hL];simp [List.getD_eq_getElem?_getD,List.getElem?_take_of_lt]
 have HL4:=Lib.hid h4L
 have hts:l.take 4=L.take 4:=by have:=hsub 0 4 (by omega);simpa using this
 have HTS:=Lib.hid hts
 have HHV:=Lib.hid hv
 have HHR:=Lib.hid hrb
 have HL:=Lib.hid hL
 rw [← hn]
 rw [← hn] at hc
 have HS1:=Lib.hid hs1
 clear hv hn hg hw1 hs1 hk1 hup hwh hrb hg0 hus hL hsub h4L hts hR
 go_enter Tryz.func89,Tryz.ntmps89
 go_upto_region 1 with fail
 rw [← HW.out,← HG.out]
 go_wp2_with fail
 refine CW.out.mono ?_
 rintro e w2 ⟨rfl,hk2⟩
 have hkw2:Keeps [] w w2:=HK.out.trans (G:=[]) hk2 (by simp)
 have hr2:w2.rangeAt gb ob (L.map B):=by
  have:=rangeAt_of_heap HHR.out (hkw2.block gb hgb (by simp))
  intro j u hj
  refine this j u ?_
  rw [HL.out] at hj
  rw [List.getElem?_map,List.getElem?_take] at hj
  split at hj
  ·rw [List.getElem?_map];exact hj
  ·cases hj
 have HR2:=Lib.hid hr2
 have HS2:=Lib.hid (HS1.out.keeps hk2 (by simp))
 have HK2:=Lib.hid hkw2
 have HSZ:=Lib.hid (show (Tryz.prog.info? 186).map (·.size)=some (L.map B).length by rw [size_sector,List.length_map,hl64])
 have hst3:(Instr.storeAt 186 (.pointer (some ⟨w2.heap.size,0,none⟩)) (.agg (L.map B).toArray)).run Tryz.prog (w2.alloc (.cells #[.int .u8 0,.int .u8 0,.int .u8 0,.int .u8 0,.int .u8 0,.int .u8 0,.int .u8 0,.int .u8 0,.int .u8 0,.int .u8 0,.int .u8 0,.int .u8 0,.int .u8 0,.int .u8 0,.int .u8 0,.int .u8 0,.int .u8 0,.int .u8 0,.int .u8 0,.int .u8 0,.int .u8 0,.int .u8 0,.int .u8 0,.int .u8 0,.int .u8 0,.int .u8 0,.int .u8 0,.int .u8 0,.int .u8 0,.int .u8 0,.int .u8 0,.int .u8 0,.int .u8 0,.int .u8 0,.int .u8 0,.int .u8 0,.int .u8 0,.int .u8 0,.int .u8 0,.int .u8 0,.int .u8 0,.int .u8 0,.int .u8 0,.int .u8 0,.int .u8 0,.int .u8 0,.int .u8 0,.int .u8 0,.int .u8 0,.int .u8 0,.int .u8 0,.int .u8 0,.int .u8 0,.int .u8 0,.int .u8 0,.int .u8 0,.int .u8 0,.int .u8 0,.int .u8 0,.int .u8 0,.int .u8 0,.int .u8 0,.int .u8 0,.int .u8 0] 186))=.ok () (w2.alloc (.cells (L.map B).toArray 186)) :=
  run_storeAt_new w2 186 _ (L.map B).toArray (by rw [HSZ.out];simp) (by simp [hl64]) (all_oneCell_toArray (B_one L))
 have HST3:=Lib.hid hst3
 clear hkw2 hr2 hk2 hst3 CW
 go_upto_region 6 with (first | (refine wl_arrayAt rfl 186 _ 64 (.tmp 16) rfl Tryz.underlying186 rfl (by omega) ?_) | (refine wpList_load_mid rfl 186 (.tmp 17) rfl gb ob (by rfl) (L.map B) _ HR2.out Tryz.underlying186 rfl HSZ.out ?_) | (refine wl_store rfl 186 (.tmp 4) (.tmp 18) rfl ?_;refine ⟨_,HST3.out,?_⟩;try simp only [zA,zB,zC,zD,zE,zF,zG,zH]))
 obtain ⟨g4,hg4⟩:∃ g4,g4=w2.heap.size:=⟨_,rfl⟩
 obtain ⟨w3,hw3⟩:∃ w3,w3=w2.alloc (.cells (L.map B).toArray 186):=⟨_,rfl⟩
 have hb3:Blk w3 g4 186 L:=by rw [hw3];exact heap_new_at hg4
 have hk23:Keeps [] w2 w3:=by rw [hw3];exact (Keeps.refl _ _).alloc _
 rw [← hw3,← hg4]
 have HB3:=Lib.hid hb3
 have HK3:=Lib.hid (HK2.out.trans (G:=[]) hk23 (by simp))
 have HS3:=Lib.hid (HS2.out.keeps hk23 (by simp))
 have lt4:(L.take 4).length=4:=by rw [List.length_take];omega
 obtain ⟨S,hS⟩:∃ S:ByteArray,S=⟨(L.take 4).toArray⟩:=⟨_,rfl⟩
 have hcv:(convert 36 9 (.slice (some ⟨g4,0,none⟩) 4 64)).run Tryz.prog w3=.ok (.string S) w3:=by
  have:=run_convert_bytes_back (P:=Tryz.prog) w3 36 9 5 ⟨g4,0,none⟩ 64 (L.take 4) Tryz.underlying36 (by kernel_rfl) (by kernel_rfl) (fun j hj=>by
   rw [Addr.add_mid,Nat.zero_add,hb3.cell j (by rw [List.length_take] at hj;omega),List.getElem_take]
   rfl)
  rw [lt4] at this
  rw [this,hS]
 have HCV:=Lib.hid hcv
 have HS4:=Lib.hid hS
 have hstf:=HS3.out.store zSup
 have z1:=Lib.hid (allZero_any (hb3.part 5 3 59 (by omega) (by omega) (by simp [maxLen])))
 have z2:=Lib.hid (allZero_any (hb3.part 28 32 36 (by omega) (by omega) (by simp [maxLen])))
 have z3:=Lib.hid (allZero_any (hb3.part 15 1 49 (by omega) (by omega) (by simp [maxLen])))
 have HSTF:=Lib.hid hstf
 have HGW:=Lib.hid hg4
 clear hw3 hg4 hb3 hk23 hcv hS lt4 hstf HST3 HSZ HS2 HR2
 have hT:S.toList=L.take 4:=by rw [HS4.out];exact ByteArray.toList_mk _
 have e1:=HSUB.out 5 3 (by omega)
 have e2:=HSUB.out 28 32 (by omega)
 have e3:=HSUB.out 15 1 (by omega)
 have hE:=HUS.out
 rw [HTS.out,e1,e2,e3] at hE
 obtain ⟨Y1,hY1⟩:∃ y,y=zeroB ((L.drop 5).take 3):=⟨_,rfl⟩
 obtain ⟨Y2,hY2⟩:∃ y,y=zeroB ((L.drop 28).take 32):=⟨_,rfl⟩
 obtain ⟨Y3,hY3⟩:∃ y,y=zeroB ((L.drop 15).take 1):=⟨_,rfl⟩
 rw [← hY1] at z1 hE
 rw [← hY2] at z2 hE
 rw [← hY3] at z3 hE
 obtain ⟨st,ss⟩:=HSTF.out
 have ST:=Lib.hid st
 have SS:=Lib.hid ss
 have HE:=Lib.hid hE
 have HT:=Lib.hid hT
 clear hE hT hY1 hY2 hY3 e1 e2 e3 st ss HUS HTS HSTF
 obtain ⟨b1,hb1⟩:∃ b,b=(L.take 4 == [76,68,71,49]):=⟨_,rfl⟩
 have q1:(S.toList == [76,68,71,49])=b1:=by rw [hb1,HT.out]
 have HE1:=HE.out
 rw [← hb1] at HE1
 clear HE hb1
 cases b1 with
 | false =>
  have HU:=Lib.hid (show R=(53,zSup) by rw [HE1];rfl)
  clear HE1
  go_wp2_with (first | (refine wl_convert rfl 36 9 (.tmp 19) rfl ?_;refine ⟨_,_,HCV.out,?_⟩;try simp only [zA,zB,zC,zD,zE,zF,zG,zH]) | (refine wl_store rfl 42 (.tmp 2) (.tmp 37) rfl ?_;refine ⟨_,ST.out,?_⟩;try simp only [zA,zB,zC,zD,zE,zF,zG,zH]) | (go_at_call 108;((with_reducible refine z1.out.mono ?_);rintro e w' ⟨rfl,rfl⟩)) | (go_at_call 108;((with_reducible refine z2.out.mono ?_);rintro e w' ⟨rfl,rfl⟩)) | (go_at_call 108;((with_reducible refine z3.out.mono ?_);rintro e w' ⟨rfl,rfl⟩)))
  exact bodyPost_ret (results_sup2 rfl rfl rfl SS.out) rfl ⟨by rw [HU.out];rfl,HK3.out.setCells (.inr HG0.out) _ _⟩
 | true =>
 cases Y1 with
 | false =>
  have HU:=Lib.hid (show R=(53,zSup) by rw [HE1];rfl)
  clear HE1
  go_wp2_with (first | (refine wl_convert rfl 36 9 (.tmp 19) rfl ?_;refine ⟨_,_,HCV.out,?_⟩;try simp only [zA,zB,zC,zD,zE,zF,zG,zH]) | (refine wl_store rfl 42 (.tmp 2) (.tmp 37) rfl ?_;refine ⟨_,ST.out,?_⟩;try simp only [zA,zB,zC,zD,zE,zF,zG,zH]) | (go_at_call 108;((with_reducible refine z1.out.mono ?_);rintro e w' ⟨rfl,rfl⟩)) | (go_at_call 108;((with_reducible refine z2.out.mono ?_);rintro e w' ⟨rfl,rfl⟩)) | (go_at_call 108;((with_reducible refine z3.out.mono ?_);rintro e w' ⟨rfl,rfl⟩)))
  exact bodyPost_ret (results_sup2 rfl rfl rfl SS.out) rfl ⟨by rw [HU.out];rfl,HK3.out.setCells (.inr HG0.out) _ _⟩
 | true =>
 cases Y2 with
 | false =>
  have HU:=Lib.hid (show R=(53,zSup) by rw [HE1];rfl)
  clear HE1
  go_wp2_with (first | (refine wl_convert rfl 36 9 (.tmp 19) rfl ?_;refine ⟨_,_,HCV.out,?_⟩;try simp only [zA,zB,zC,zD,zE,zF,zG,zH]) | (refine wl_store rfl 42 (.tmp 2) (.tmp 37) rfl ?_;refine ⟨_,ST.out,?_⟩;try simp only [zA,zB,zC,zD,zE,zF,zG,zH]) | (go_at_call 108;((with_reducible refine z1.out.mono ?_);rintro e w' ⟨rfl,rfl⟩)) | (go_at_call 108;((with_reducible refine z2.out.mono ?_);rintro e w' ⟨rfl,rfl⟩)) | (go_at_call 108;((with_reducible refine z3.out.mono ?_);rintro e w' ⟨rfl,rfl⟩)))
  exact bodyPost_ret (results_sup2 rfl rfl rfl SS.out) rfl ⟨by rw [HU.out];rfl,HK3.out.setCells (.inr HG0.out) _ _⟩
 | true =>
 cases Y3 with
 | false =>
  have HU:=Lib.hid (show R=(53,zSup) by rw [HE1];rfl)
  clear HE1
  go_wp2_with (first | (refine wl_convert rfl 36 9 (.tmp 19) rfl ?_;refine ⟨_,_,HCV.out,?_⟩;try simp only [zA,zB,zC,zD,zE,zF,zG,zH]) | (refine wl_store rfl 42 (.tmp 2) (.tmp 37) rfl ?_;refine ⟨_,ST.out,?_⟩;try simp only [zA,zB,zC,zD,zE,zF,zG,zH]) | (go_at_call 108;((with_reducible refine z1.out.mono ?_);rintro e w' ⟨rfl,rfl⟩)) | (go_at_call 108;((with_reducible refine z2.out.mono ?_);rintro e w' ⟨rfl,rfl⟩)) | (go_at_call 108;((with_reducible refine z3.out.mono ?_);rintro e w' ⟨rfl,rfl⟩)))
  exact bodyPost_ret (results_sup2 rfl rfl rfl SS.out) rfl ⟨by rw [HU.out];rfl,HK3.out.setCells (.inr HG0.out) _ _⟩
 | true =>
 have hE2:=HE1
 rw [if_neg (by decide)] at hE2
 have HE2:=Lib.hid hE2
 clear HE1 hE2
 go_upto_region 8 with (first | (refine wl_convert rfl 36 9 (.tmp 19) rfl ?_;refine ⟨_,_,HCV.out,?_⟩;try simp only [zA,zB,zC,zD,zE,zF,zG,zH]) | (go_at_call 108;((with_reducible refine z1.out.mono ?_);rintro e w' ⟨rfl,rfl⟩)) | (go_at_call 108;((with_reducible refine z2.out.mono ?_);rintro e w' ⟨rfl,rfl⟩)) | (go_at_call 108;((with_reducible refine z3.out.mono ?_);rintro e w' ⟨rfl,rfl⟩)))
 obtain ⟨x4,hx4⟩:∃ x,x=L.getD 4 0:=⟨_,rfl⟩
 obtain ⟨n4,hn4⟩:∃ n,n=x4.toNat:=⟨_,rfl⟩
 have hc4:∀ wx,Blk wx g4 186 L→wx.cell? ⟨g4,4,none⟩=some (.int .u8 n4):=fun wx h=>by
  rw [h.cell 4 (by omega),hn4,hx4,List.getD_eq_getElem?_getD,List.getElem?_eq_getElem (by omega)]
  rfl
 obtain ⟨v1,hv1⟩:∃ v,v=unLe ((L.drop 8).take 7):=⟨_,rfl⟩
 obtain ⟨v2,hv2⟩:∃ v,v=unLe ((L.drop 16).take 4):=⟨_,rfl⟩
 obtain ⟨v3,hv3⟩:∃ v,v=unLe ((L.drop 20).take 4):=⟨_,rfl⟩
 obtain ⟨v4,hv4⟩:∃ v,v=unLe ((L.drop 24).take 4):=⟨_,rfl⟩
 have hget:∀ o k V,k≤7→o+k≤64→V=unLe ((L.drop o).take k)→∀ wx,Blk wx g4 186 L→Calls Tryz.prog 109 #[.slice (some ⟨g4,o,none⟩) (64 - o) (64 - o),.int .i64 k] wx fun e w'=>e=.returned (.int .i64 V)∧wx=w':=fun o k V hk ho hV wx h=>by
  have:=get_any k (h.part o (64 - o) (64 - o) (by omega) (Nat.le_refl _) (by simp only [maxLen];omega)) hk (by rw [List.length_take,List.length_drop];omega)
  rw [List.take_take,Nat.min_eq_left (by omega),← hV] at this
  exact this
 have g1:∀ wx,Blk wx g4 186 L→Calls Tryz.prog 109 #[.slice (some ⟨g4,8,none⟩) 56 56,.int .i64 7] wx fun e w'=>e=.returned (.int .i64 v1)∧wx=w':=hget 8 7 v1 (by omega) (by omega) hv1
 have G1:=Lib.hid g1
 have g2:∀ wx,Blk wx g4 186 L→Calls Tryz.prog 109 #[.slice (some ⟨g4,16,none⟩) 48 48,.int .i64 4] wx fun e w'=>e=.returned (.int .i64 v2)∧wx=w':=hget 16 4 v2 (by omega) (by omega) hv2
 have G2:=Lib.hid g2
 have g3:∀ wx,Blk wx g4 186 L→Calls Tryz.prog 109 #[.slice (some ⟨g4,20,none⟩) 44 44,.int .i64 4] wx fun e w'=>e=.returned (.int .i64 v3)∧wx=w':=hget 20 4 v3 (by omega) (by omega) hv3
 have G3:=Lib.hid g3
 have g5:∀ wx,Blk wx g4 186 L→Calls Tryz.prog 109 #[.slice (some ⟨g4,24,none⟩) 40 40,.int .i64 4] wx fun e w'=>e=.returned (.int .i64 v4)∧wx=w':=hget 24 4 v4 (by omega) (by omega) hv4
 have G4:=Lib.hid g5
 have hx8:n4 < 256:=by rw [hn4];exact x4.toNat_lt
 have e4:IntKind.i64.wrap (n4:Int)=(n4:Int):=IntWalk.i64_in _ (by omega)
 have hE3:R=if (⟨n4,v1,v2,v3,v4⟩:Sup).valid=false then (53,zSup) else (0,⟨n4,v1,v2,v3,v4⟩):=by
  have h:=HE2.out
  rw [HSUB.out 8 7 (by omega),HSUB.out 16 4 (by omega),HSUB.out 20 4 (by omega),HSUB.out 24 4 (by omega),HL4.out,← hx4,← hn4,← hv1,← hv2,← hv3,← hv4] at h
  exact h
 have HE3:=Lib.hid hE3
 have HC4:=Lib.hid hc4
 clear g1 g2 g3 g5 hE3 hc4 hget hx4 hn4 hv1 hv2 hv3 hv4 HE2 z1 z2 z3 q1 HCV
 refine wp_region_held_drew (S:=(fun w'=>w'.cell? ⟨g4,4,none⟩=some (.int .u8 n4)∧Blk w' g4 186 L)) (by kernel_rfl) ?_ (fun hHeld=>?_)
 ·exact ⟨HC4.out w3.drew HB3.out,HB3.out⟩
 refine tk 0 ?_
 refine tk 1 ?_
 refine tk 2 ?_
 refine tk 3 ?_
 refine hc_take (i:=4) (v:=.int .i64 v1) rfl (by kernel_rfl) (by kernel_rfl) (by kernel_rfl) (fun _ _ _ h=>h) (yieldsC_call (by rfl) 109 _ _ rfl Tryz.f109 Tryz.func109 (by kernel_rfl) rfl #[.slice (some ⟨g4,8,none⟩) 56 56,.int .i64 7] (by simp [Act.eval]) (fun w0 hS=>G1.out w0 hS.2)) (by assumption) ?_
 try simp only [zA,zB,zC,zD,zE,zF,zG,zH]
 refine tk 5 ?_
 refine hc_take (i:=6) (v:=.int .i64 v2) rfl (by kernel_rfl) (by kernel_rfl) (by kernel_rfl) (fun _ _ _ h=>h) (yieldsC_call (by rfl) 109 _ _ rfl Tryz.f109 Tryz.func109 (by kernel_rfl) rfl #[.slice (some ⟨g4,16,none⟩) 48 48,.int .i64 4] (by simp [Act.eval]) (fun w0 hS=>G2.out w0 hS.2)) (by assumption) ?_
 try simp only [zA,zB,zC,zD,zE,zF,zG,zH]
 refine tk 7 ?_
 refine hc_take (i:=8) (v:=.int .i64 v3) rfl (by kernel_rfl) (by kernel_rfl) (by kernel_rfl) (fun _ _ _ h=>h) (yieldsC_call (by rfl) 109 _ _ rfl Tryz.f109 Tryz.func109 (by kernel_rfl) rfl #[.slice (some ⟨g4,20,none⟩) 44 44,.int .i64 4] (by simp [Act.eval]) (fun w0 hS=>G3.out w0 hS.2)) (by assumption) ?_
 try simp only [zA,zB,zC,zD,zE,zF,zG,zH]
 refine tk 9 ?_
 refine hc_take (i:=10) (v:=.int .i64 v4) rfl (by kernel_rfl) (by kernel_rfl) (by kernel_rfl) (fun _ _ _ h=>h) (yieldsC_call (by rfl) 109 _ _ rfl Tryz.f109 Tryz.func109 (by kernel_rfl) rfl #[.slice (some ⟨g4,24,none⟩) 40 40,.int .i64 4] (by simp [Act.eval]) (fun w0 hS=>G4.out w0 hS.2)) (by assumption) ?_
 try simp only [zA,zB,zC,zD,zE,zF,zG,zH]
 refine tk 11 ?_
 refine ac 12 fun K hK=>?_
 go_simp
 refine hK.out _ _ ?_ (fun hHeld=>?_)
 ·exact ⟨HC4.out _ (HB3.out.keeps (((Keeps.refl [] w3).alloc _).drew) (by simp)),HB3.out.keeps (((Keeps.refl [] w3).alloc _).drew) (by simp)⟩
 clear hK K
 try simp only [zA,zB,zC,zD,zE,zF,zG,zH]
 refine ac 13 fun K hK=>?_
 go_simp
 refine hK.out _ _ ?_ (fun hHeld=>?_)
 ·exact ⟨HC4.out _ (HB3.out.keeps (((Keeps.refl [] w3).alloc _).drew) (by simp)),HB3.out.keeps (((Keeps.refl [] w3).alloc _).drew) (by simp)⟩
 clear hK K
 try simp only [zA,zB,zC,zD,zE,zF,zG,zH]
 refine wpAnyH_done (by kernel_rfl) ?_ _
 obtain ⟨w5,hw5⟩:∃ w5,w5=(w3.alloc (.cells #[.int .i64 n4,.int .i64 v1,.int .i64 v2,.int .i64 v3,.int .i64 v4] 42 (0,0))).drew:=⟨_,rfl⟩
 obtain ⟨g5,hg5⟩:∃ g5,g5=w3.heap.size:=⟨_,rfl⟩
 have hs5:SupAt w5 g5 ⟨n4,v1,v2,v3,v4⟩:=by rw [hw5];exact heap_new_at hg5
 have hk5:Keeps [] w3 w5:=by rw [hw5];exact ((Keeps.refl _ _).alloc _).drew
 rw [← hw5,← hg5]
 have HS5:=Lib.hid (HS3.out.keeps hk5 (by simp))
 have HK5:=Lib.hid (HK3.out.trans (G:=[]) hk5 (by simp))
 have HLD:=Lib.hid hs5.load
 have CV:=Lib.hid (valid_any (w:=w5) ⟨n4,v1,v2,v3,v4⟩)
 have HT5:=Lib.hid hs5
 clear hw5 hg5 hs5 hk5 e4 hHeld
 obtain ⟨b,hb⟩:∃ b,b=(⟨n4,v1,v2,v3,v4⟩:Sup).valid:=⟨_,rfl⟩
 rw [← hb] at CV
 have hE4:=HE3.out
 rw [← hb] at hE4
 clear hb HE3
 cases b with
 | false =>
  have HU:=Lib.hid (show R=(53,zSup) by rw [hE4];rfl)
  clear hE4
  go_wp2_with (first | (refine wl_load rfl 42 (.tmp 5) rfl ?_;refine ⟨_,_,HLD.out,?_⟩;try simp only [zA,zB,zC,zD,zE,zF,zG,zH]) | fail)
  refine CV.out.mono ?_
  rintro e w6 ⟨rfl,hk6⟩
  obtain ⟨st,ss⟩:=(HS5.out.keeps hk6 (by simp)).store zSup
  have ST:=Lib.hid st
  have SS:=Lib.hid ss
  have HK6:=Lib.hid (HK5.out.trans (G:=[]) hk6 (by simp))
  clear hk6 st ss
  go_wp2_with (first | (refine wl_store rfl 42 (.tmp 2) (.tmp 53) rfl ?_;refine ⟨_,ST.out,?_⟩;try simp only [zA,zB,zC,zD,zE,zF,zG,zH]))
  exact bodyPost_ret (results_sup2 rfl rfl rfl SS.out) rfl ⟨by rw [HU.out];rfl,HK6.out.setCells (.inr HG0.out) _ _⟩
 | true =>
  have HU:=Lib.hid (show R=(0,⟨n4,v1,v2,v3,v4⟩) by rw [hE4];rfl)
  clear hE4
  go_wp2_with (first | (refine wl_load rfl 42 (.tmp 5) rfl ?_;refine ⟨_,_,HLD.out,?_⟩;try simp only [zA,zB,zC,zD,zE,zF,zG,zH]) | fail)
  refine CV.out.mono ?_
  rintro e w6 ⟨rfl,hk6⟩
  have HLD6:=Lib.hid (HT5.out.keeps hk6 (by simp)).load
  obtain ⟨st,ss⟩:=(HS5.out.keeps hk6 (by simp)).store ⟨n4,v1,v2,v3,v4⟩
  have ST:=Lib.hid st
  have SS:=Lib.hid ss
  have HK6:=Lib.hid (HK5.out.trans (G:=[]) hk6 (by simp))
  clear hk6 st ss
  go_wp2_with (first | (refine wl_load rfl 42 (.tmp 5) rfl ?_;refine ⟨_,_,HLD6.out,?_⟩;try simp only [zA,zB,zC,zD,zE,zF,zG,zH]) | (refine wl_store rfl 42 (.tmp 2) (.tmp 54) rfl ?_;refine ⟨_,ST.out,?_⟩;try simp only [zA,zB,zC,zD,zE,zF,zG,zH]))
  exact bodyPost_ret (results_sup2 rfl rfl rfl SS.out) rfl ⟨by rw [HU.out];rfl,HK6.out.setCells (.inr HG0.out) _ _⟩
open Go.RowKit
theorem wp_arrayAt {o:Oper} {a:Act} {w:World} {K:Act→World→Prop} {Q:Exit→Act→World→Prop} (t e:TypeId) (n:Nat) (x:Operand) (ho:o.op=.sliceToArrayPointer t x) (ht:Tryz.prog.underlying t=some (.array n e))
  {p:Option Addr} {m c:Nat} (hx:a.eval x=.slice p m c) (hm:n≤m) (h:K (a.put o.dst (.pointer p)) w):o.wp Tryz.prog a w K Q:=by
 unfold Oper.wp execOp
 simp [ho,hx,Instr.arrayAt,run_underlying ht,Nat.not_lt.2 hm,Result.andThen]
 exact h
theorem eqGuard_sector (op:BinOp) (x y:Operand) (xs ys:Array Value) (w:World):(eqGuard op 186 x y (.agg xs) (.agg ys)).run Tryz.prog w=.ok () w:=run_eqGuard_agg w op 186 x y xs ys (by kernel_rfl)
theorem zeroB_eq {L:List UInt8} {n:Nat} (h:L.length=n):(L == List.replicate n 0)=zeroB L:=by
 rw [Bool.eq_iff_iff,beq_iff_eq,List.eq_replicate_iff]
 unfold zeroB
 rw [Bool.not_eq_true',List.any_eq_false]
 simp [h]
set_option maxRecDepth 100000 in
set_option maxHeartbeats 800000 in
theorem empty_any {w:World} {v:Value} {l:List UInt8} (hv:BytesAt w v l) :
  Calls Tryz.prog 91 #[v] w fun e w'=>e=.returned (.bool (emptyL l))∧w=w':=by
 obtain ⟨a,c,rfl,hc,hm⟩:=hv.form
 unfold maxLen at hm
 obtain ⟨n,hn⟩:∃ n,n=l.length:=⟨_,rfl⟩
 obtain ⟨R,hR⟩:∃ R,R=emptyL l:=⟨_,rfl⟩
 rw [← hR]
 unfold emptyL at hR
 rw [← hn] at hc hR ⊢
 by_cases h256:n=256
 rotate_left 1
 ·have n1:((n:Int) == 256)=false:=by simp;omega
  have hu:R=false:=by rw [hR];simp [h256]
  subst hu
  clear hv hn hR h256
  go_enter Tryz.func91,Tryz.ntmps91
  go_wp2_with fail
  go_ret
  exact ⟨rfl,rfl⟩
 subst h256
 obtain ⟨gb,ob,rfl,hgb,hrb⟩:=hv.at (by omega)
 obtain ⟨L,hL⟩:∃ L,L=l.take 64:=⟨_,rfl⟩
 have hl64:L.length=64:=by rw [hL,List.length_take];omega
 have hr2:w.rangeAt gb ob (L.map B):=fun j u hj=>by
  refine hrb j u ?_
  rw [hL,List.getElem?_map,List.getElem?_take] at hj
  split at hj
  ·rw [List.getElem?_map];exact hj
  ·cases hj
 have hR2:R=zeroB L:=by rw [hR,hL];simp
 have HR2:=Lib.hid hr2
 have HSZ:=Lib.hid (show (Tryz.prog.info? 186).map (·.size)=some (L.map B).length by rw [size_sector,List.length_map,hl64])
 have hq:∀ w,(Op.equalIn 10000 186 (.agg (L.map B).toArray) (.agg #[.int .u8 0,.int .u8 0,.int .u8 0,.int .u8 0,.int .u8 0,.int .u8 0,.int .u8 0,.int .u8 0,.int .u8 0,.int .u8 0,.int .u8 0,.int .u8 0,.int .u8 0,.int .u8 0,.int .u8 0,.int .u8 0,.int .u8 0,.int .u8 0,.int .u8 0,.int .u8 0,.int .u8 0,.int .u8 0,.int .u8 0,.int .u8 0,.int .u8 0,.int .u8 0,.int .u8 0,.int .u8 0,.int .u8 0,.int .u8 0,.int .u8 0,.int .u8 0,.int .u8 0,.int .u8 0,.int .u8 0,.int .u8 0,.int .u8 0,.int .u8 0,.int .u8 0,.int .u8 0,.int .u8 0,.int .u8 0,.int .u8 0,.int .u8 0,.int .u8 0,.int .u8 0,.int .u8 0,.int .u8 0,.int .u8 0,.int .u8 0,.int .u8 0,.int .u8 0,.int .u8 0,.int .u8 0,.int .u8 0,.int .u8 0,.int .u8 0,.int .u8 0,.int .u8 0,.int .u8 0,.int .u8 0,.int .u8 0,.int .u8 0,.int .u8 0])).run Tryz.prog w=.ok R w:=fun w=>by
  have:=run_equalIn_bytes w 9998 Tryz.underlying186 hl64 (List.length_replicate (n:=64) (a:=(0:UInt8)))
  rw [zeroB_eq hl64,← hR2] at this
  exact this
 have hg:=eqGuard_sector
 clear hv hn hR hL hl64 hr2 hR2 hrb hgb
 go_enter Tryz.func91,Tryz.ntmps91
 go_wp2_with (first | (refine Go.BigFrame.wpList_want (by rfl) fun K hK=>wp_arrayAt 186 _ 64 (.tmp 8) rfl Tryz.underlying186 rfl (by omega) (hK _ _ ?_)) | (refine Go.BigFrame.wpList_want (by rfl) fun K hK=>wp_load_mid 186 (.tmp 9) rfl gb ob (by rfl) (L.map B) _ HR2.out Tryz.underlying186 rfl HSZ.out (hK _ _ ?_)))
 go_ret
 exact ⟨rfl,rfl⟩
open Go.RowKit
theorem eq_super (s t:Sup) (w:World):(Op.equalIn 10000 42 (supV s) (supV t)).run Tryz.prog w=.ok (decide (s=t)) w:=by
 obtain ⟨a1,a2,a3,a4,a5⟩:=s
 obtain ⟨b1,b2,b3,b4,b5⟩:=t
 unfold supV
 have hu:=Tryz.underlying3
 go_simp
 by_cases h1:a1=b1 <;> by_cases h2:a2=b2 <;> by_cases h3:a3=b3 <;> by_cases h4:a4=b4 <;> by_cases h5:a5=b5 <;> simp [h1,h2,h3,h4,h5]
theorem eqGuard_super (op:BinOp) (x y:Operand) (xs ys:Array Value) (w:World):(eqGuard op 42 x y (.agg xs) (.agg ys)).run Tryz.prog w=.ok () w:=run_eqGuard_agg w op 42 x y xs ys (by kernel_rfl)
theorem run_neq_super (x y:Operand) (s t:Sup) (w:World):(do eqGuard .neq 42 x y (supV s) (supV t);binOp .neq 42 (supV s) (supV t)).run Tryz.prog w=.ok (.bool (!decide (s=t))) w:=by
 rw [Sem.run_bind,show (eqGuard .neq 42 x y (supV s) (supV t)).run Tryz.prog w=.ok () w from eqGuard_super _ _ _ _ _ _,Result.andThen_ok]
 have h:=run_neq_struct (P:=Tryz.prog) w 42 (supC s).toArray (supC t).toArray
 have e:=eq_super s t w
 rw [supV_eq,supV_eq] at e ⊢
 rw [h,e]
 rfl
def Sup.inGen (s:Sup):Prop:=0≤s.gen∧s.gen≤1099511627776
set_option maxRecDepth 100000 in
set_option maxHeartbeats 1600000 in
theorem newer_any {w:World} {a b:Sup} (ha:a.inGen) (hb:b.inGen) :
  Calls Tryz.prog 90 #[supV a,supV b] w fun e w'=>e=.returned (.tuple #[supV (newerL a b).2,.int .i64 (newerL a b).1])∧Keeps [] w w':=by
 obtain ⟨R,hR⟩:∃ R,R=newerL a b:=⟨_,rfl⟩
 rw [← hR]
 unfold newerL at hR
 show Calls Tryz.prog 90 #[.agg #[.int .i64 a.width,.int .i64 a.gen,.int .i64 a.mark,.int .i64 a.head,.int .i64 a.pages],.agg #[.int .i64 b.width,.int .i64 b.gen,.int .i64 b.mark,.int .i64 b.head,.int .i64 b.pages]] w _
 obtain ⟨w1,hw1⟩:∃ w1,w1=((w.alloc (.cells #[.int .i64 a.width,.int .i64 a.gen,.int .i64 a.mark,.int .i64 a.head,.int .i64 a.pages] 42 (0,0))).alloc (.cells #[.int .i64 b.width,.int .i64 b.gen,.int .i64 b.mark,.int .i64 b.head,.int .i64 b.pages] 42 (0,0))).alloc (.cells #[.int .i64 0,.int .i64 0,.int .i64 0,.int .i64 0,.int .i64 0] 42 (0,0)):=⟨_,rfl⟩
 obtain ⟨g,hg⟩:∃ g,g=w.heap.size:=⟨_,rfl⟩
 obtain ⟨g1,hg1⟩:∃ g,g=w.heap.size+1:=⟨_,rfl⟩
 obtain ⟨g2,hg2⟩:∃ g,g=w.heap.size+1+1:=⟨_,rfl⟩
 have sa:SupAt w1 g a:=by rw [hw1];exact (heap_old_at (by simp;omega)).trans ((heap_old_at (by simp;omega)).trans (heap_new_at hg))
 have sb:SupAt w1 g1 b:=by rw [hw1];exact (heap_old_at (by simp;omega)).trans (heap_new_at (by simp;omega))
 have sz:SupAt w1 g2 zSup:=by rw [hw1];exact heap_new_at (by simp;omega)
 have hk1:Keeps [] w w1:=by rw [hw1];exact (((Keeps.refl _ _).alloc _).alloc _).alloc _
 have hgs:g≠g1∧g1≠g2∧g≠g2∧w.heap.size≤g∧w.heap.size≤g1∧w.heap.size≤g2:=by omega
 obtain ⟨a0,ha1⟩:=ha
 obtain ⟨b0,hb1⟩:=hb
 have A1:=Lib.hid ha1
 have B1:=Lib.hid hb1
 clear ha1 hb1
 have HW:=Lib.hid hw1
 have HG:=Lib.hid hg
 have HG1:=Lib.hid hg1
 have HG2:=Lib.hid hg2
 have HK:=Lib.hid hk1
 have HR:=Lib.hid hR
 have HA:=Lib.hid sa
 have HB:=Lib.hid sb
 have HZ:=Lib.hid sz
 have HGS:=Lib.hid hgs
 have ca1:=sa.cells.2.1
 have cb1:=sb.cells.2.1
 clear hw1 hg hg1 hg2 hk1 sa sb sz hgs
 by_cases hgood:a.gen % 2≠0∨b.gen % 2≠1
 ·rw [if_pos hgood] at hR
  have HU:=Lib.hid hR
  obtain ⟨st,ss⟩:=HZ.out.store zSup
  have ST:=Lib.hid st
  have SS:=Lib.hid ss
  have q:=hgood
  clear hR st ss hgood HR
  by_cases h0:a.gen % 2=0
  ·have h1:b.gen % 2=0:=by omega
   clear q
   go_enter Tryz.func90,Tryz.ntmps90
   go_upto_region 1 with fail
   rw [← HW.out,← HG2.out,← HG1.out,← HG.out]
   go_wp2_with (first | (refine wl_store rfl 42 (.tmp 4) (.tmp 17) rfl ?_;refine ⟨_,ST.out,?_⟩;try simp only [zA,zB,zC,zD,zE,zF,zG,zH]))
   exact bodyPost_ret (results_sup2 rfl rfl rfl SS.out) rfl ⟨by rw [HU.out];rfl,HK.out.setCells (.inr HGS.out.2.2.2.2.2) _ _⟩
  ·have h1:a.gen % 2=1:=by omega
   clear q h0
   go_enter Tryz.func90,Tryz.ntmps90
   go_upto_region 1 with fail
   rw [← HW.out,← HG2.out,← HG1.out,← HG.out]
   go_wp2_with (first | (refine wl_store rfl 42 (.tmp 4) (.tmp 17) rfl ?_;refine ⟨_,ST.out,?_⟩;try simp only [zA,zB,zC,zD,zE,zF,zG,zH]))
   exact bodyPost_ret (results_sup2 rfl rfl rfl SS.out) rfl ⟨by rw [HU.out];rfl,HK.out.setCells (.inr HGS.out.2.2.2.2.2) _ _⟩
 rw [if_neg hgood] at hR
 have h0:a.gen % 2=0:=by omega
 have h1:b.gen % 2=1:=by omega
 clear hgood HR
 by_cases hlt:a.gen < b.gen
 ·simp only [if_pos hlt] at hR
  have HR:=Lib.hid hR
  obtain ⟨st1,ss1⟩:=HA.out.store b
  have hka:Keeps [g] w1 (w1.setCells g 0 (supC b)):=(Keeps.refl _ _).setCells (.inl (by simp)) _ _
  obtain ⟨n1,n2,n3,n4,n5,n6⟩:=HGS.out
  have sb1:=HB.out.keeps hka (by simpa using n1.symm)
  obtain ⟨st2,ss2⟩:=sb1.store a
  have hkb:Keeps [g1] (w1.setCells g 0 (supC b)) ((w1.setCells g 0 (supC b)).setCells g1 0 (supC a)):=(Keeps.refl _ _).setCells (.inl (by simp)) _ _
  have HLA:=Lib.hid HA.out.load
  have HLB:=Lib.hid HB.out.load
  have ST1:=Lib.hid st1
  have ST2:=Lib.hid st2
  obtain ⟨w4,hw4⟩:∃ w4,w4=(w1.setCells g 0 (supC b)).setCells g1 0 (supC a):=⟨_,rfl⟩
  have HX4:=Lib.hid (show SupAt w4 g b by rw [hw4];exact ss1.keeps hkb (by simpa using n1))
  have HY4:=Lib.hid (show SupAt w4 g1 a by rw [hw4];exact ss2)
  have HZ4:=Lib.hid (show SupAt w4 g2 zSup by rw [hw4];exact (HZ.out.keeps hka (by simpa using n3.symm)).keeps hkb (by simpa using n2.symm))
  have HK4:=Lib.hid (show Keeps [] w w4 by rw [hw4];exact (HK.out.setCells (.inr n4) _ _).setCells (.inr n5) _ _)
  have HW4:=Lib.hid hw4
  clear hR st1 ss1 hka sb1 st2 ss2 hkb hw4 n1 n2 n3 n4 n5 n6
  go_enter Tryz.func90,Tryz.ntmps90
  go_upto_region 1 with fail
  rw [← HW.out,← HG2.out,← HG1.out,← HG.out]
  go_upto_region 4 with fail
  clear ca1 cb1
  go_upto_region 5 with (first | (refine wl_load rfl 42 (.tmp 3) rfl ?_;refine ⟨_,_,HLB.out,?_⟩;try simp only [zA,zB,zC,zD,zE,zF,zG,zH]) | (refine wl_load rfl 42 (.tmp 2) rfl ?_;refine ⟨_,_,HLA.out,?_⟩;try simp only [zA,zB,zC,zD,zE,zF,zG,zH]) | (refine wl_store rfl 42 (.tmp 2) (.tmp 23) rfl ?_;refine ⟨_,ST1.out,?_⟩;try simp only [zA,zB,zC,zD,zE,zF,zG,zH]) | (refine wl_store rfl 42 (.tmp 3) (.tmp 24) rfl ?_;refine ⟨_,ST2.out,?_⟩;try simp only [zA,zB,zC,zD,zE,zF,zG,zH]))
  rw [← HW4.out]
  clear hlt
  have HLY:=Lib.hid HY4.out.load
  obtain ⟨w5,hw5⟩:∃ w5,w5=w4.alloc (.cells (supC a).toArray 42 (0,0)):=⟨_,rfl⟩
  obtain ⟨g3,hg3⟩:∃ g3,g3=w4.heap.size:=⟨_,rfl⟩
  have hk45:Keeps [] w4 w5:=by rw [hw5];exact (Keeps.refl _ _).alloc _
  have st5:SupAt w5 g3 a:=by rw [hw5];exact heap_new_at hg3
  have hst5:=run_storeAt_new (P:=Tryz.prog) w4 42 #[.int .i64 0,.int .i64 0,.int .i64 0,.int .i64 0,.int .i64 0] (supC a).toArray (by rw [size_super];rfl) rfl (all_oneCell_toArray (supC_one _))
  have HST5:=Lib.hid hst5
  have HX5:=Lib.hid (HX4.out.keeps hk45 (by simp))
  have HY5:=Lib.hid (HY4.out.keeps hk45 (by simp))
  have HZ5:=Lib.hid (HZ4.out.keeps hk45 (by simp))
  have HK5:=Lib.hid (HK4.out.trans (G:=[]) hk45 (by simp))
  have HW5:=Lib.hid hw5
  have HG3:=Lib.hid hg3
  have HT5:=Lib.hid st5
  have hne3:g≠g3∧g1≠g3∧g2≠g3:=by
   have l1:=lt_of_heap HX4.out
   have l2:=lt_of_heap HY4.out
   have l3:=lt_of_heap HZ4.out
   omega
  have HG30:=Lib.hid (show w.heap.size≤g3 by have:=HK4.out.size;omega)
  have HNE:=Lib.hid hne3
  obtain ⟨p,hp⟩:∃ p:Sup,p=⟨a.width,a.gen+1,b.mark,b.head,a.pages⟩:=⟨_,rfl⟩
  obtain ⟨w6,hw6⟩:∃ w6,w6=(((w5.setCell ⟨g3,1,none⟩ (.int .i64 (a.gen+1))).setCell ⟨g3,2,none⟩ (.int .i64 b.mark)).setCell ⟨g3,3,none⟩ (.int .i64 b.head)).drew:=⟨_,rfl⟩
  have st6:SupAt w6 g3 p:=by
   have h1:=heap_setCell_same w5 g3 1 _ _ (.int .i64 (a.gen+1)) st5
   have h2:=heap_setCell_same _ g3 2 _ _ (.int .i64 b.mark) h1
   have h3:=heap_setCell_same _ g3 3 _ _ (.int .i64 b.head) h2
   rw [hw6,hp]
   exact h3
  have hk56:Keeps [g3] w5 w6:=by rw [hw6];exact ((((Keeps.refl _ _).setCell (.inl (by simp)) _).setCell (.inl (by simp)) _).setCell (.inl (by simp)) _).drew
  have HX6:=Lib.hid (HX5.out.keeps hk56 (by simpa using hne3.1))
  have HY6:=Lib.hid (HY5.out.keeps hk56 (by simpa using hne3.2.1))
  have HZ6:=Lib.hid (HZ5.out.keeps hk56 (by simpa using hne3.2.2))
  have HK6:=Lib.hid ((HK5.out.trans (G:=[g3]) hk56 (fun k hk=>.inr (by simp at hk;subst hk;exact HG30.out))))
  have HT6:=Lib.hid st6
  have HW6:=Lib.hid hw6
  have HP:=Lib.hid hp
  have hcell:∀ wx,Keeps [g3] w5 wx→wx.cell? ⟨g1,1,none⟩=some (.int .i64 a.gen)∧wx.cell? ⟨g,2,none⟩=some (.int .i64 b.mark)∧wx.cell? ⟨g,3,none⟩=some (.int .i64 b.head):=fun wx hk=>by
   have hx:=HX5.out.keeps hk (by simpa using HNE.out.1)
   have hy:=HY5.out.keeps hk (by simpa using HNE.out.2.1)
   exact ⟨hy.cells.2.1,hx.cells.2.2.1,hx.cells.2.2.2.1⟩
  have HC:=Lib.hid hcell
  clear hw5 hg3 hk45 st5 hst5 hne3 hp hw6 st6 hk56 hcell
  go_upto_region 6 with (first | (refine wl_load rfl 42 (.tmp 3) rfl ?_;refine ⟨_,_,HLY.out,?_⟩;try simp only [zA,zB,zC,zD,zE,zF,zG,zH]) | (refine wl_store rfl 42 (.tmp 6) (.tmp 25) rfl ?_;refine ⟨_,HST5.out,?_⟩;try simp only [zA,zB,zC,zD,zE,zF,zG,zH]))
  rw [show w4.alloc (.cells (supC a).toArray 42)=w5 from HW5.out.symm,← HG3.out]
  have ct1:=HT5.out.cells.2.1
  have ct2:=HT5.out.cells.2.2.1
  have ct3:=HT5.out.cells.2.2.2.1
  have f1:=HT5.out.free 1
  have f2:=HT5.out.free 2
  have f3:=HT5.out.free 3
  have e1:IntKind.i64.wrap (a.gen+1)=a.gen+1:=IntWalk.i64_in _ (by have:=A1.out;omega)
  refine wp_region_held_drew (S:=(fun w'=>w'.cell? ⟨g1,1,none⟩=some (.int .i64 a.gen)∧w'.cell? ⟨g,2,none⟩=some (.int .i64 b.mark)∧w'.cell? ⟨g,3,none⟩=some (.int .i64 b.head))) (by kernel_rfl) ?_ (fun hHeld=>?_)
  ·exact HC.out w5.drew (Keeps.refl _ _).drew
  refine tk 0 ?_
  refine tk 1 ?_
  refine tk 2 ?_
  refine tk 3 ?_
  refine tk 4 ?_
  refine tk 5 ?_
  refine tk 6 ?_
  refine tk 7 ?_
  refine ac 8 fun K hK=>?_
  go_simp
  refine hK.out _ _ ?_ (fun hHeld=>?_)
  ·exact HC.out _ (((Keeps.refl _ _).setCell (.inl (by simp)) _).drew)
  clear hK K
  try simp only [zA,zB,zC,zD,zE,zF,zG,zH]
  refine tk 9 ?_
  refine ac 10 fun K hK=>?_
  go_simp
  refine hK.out _ _ ?_ (fun hHeld=>?_)
  ·exact HC.out _ ((((Keeps.refl _ _).setCell (.inl (by simp)) _).setCell (.inl (by simp)) _).drew)
  clear hK K
  try simp only [zA,zB,zC,zD,zE,zF,zG,zH]
  refine tk 11 ?_
  refine ac 12 fun K hK=>?_
  go_simp
  refine hK.out _ _ ?_ (fun hHeld=>?_)
  ·exact HC.out _ (((((Keeps.refl _ _).setCell (.inl (by simp)) _).setCell (.inl (by simp)) _).setCell (.inl (by simp)) _).drew)
  clear hK K
  try simp only [zA,zB,zC,zD,zE,zF,zG,zH]
  refine wpAnyH_done (by kernel_rfl) ?_ _
  rw [← HW6.out]
  clear ct1 ct2 ct3 f1 f2 f3 e1 hHeld HC HST5 HLY HW5 HW6 HG3
  have HLT:=Lib.hid HT6.out.load
  have HLX:=Lib.hid HX6.out.load
  have hq:=fun x y w=>run_neq_super x y p b w
  have HQ:=Lib.hid hq
  clear hq
  have cm1:=HX6.out.cells.2.2.1
  have cm2:=HY6.out.cells.2.2.1
  obtain ⟨stz,ssz⟩:=HZ6.out.store zSup
  obtain ⟨stx,ssx⟩:=HZ6.out.store b
  have STZ:=Lib.hid stz
  have SSZ:=Lib.hid ssz
  have STX:=Lib.hid stx
  have SSX:=Lib.hid ssx
  clear stz ssz stx ssx
  have hR6:=HR.out
  rw [← HP.out] at hR6
  clear HR HP
  by_cases hpx:p=b
  rotate_left 1
  ·have hd:decide (p=b)=false:=by simp [hpx]
   rw [if_pos (.inl hpx)] at hR6
   have HU:=Lib.hid hR6
   have HQ2:∀ x y w,(do eqGuard .neq 42 x y (supV p) (supV b);binOp .neq 42 (supV p) (supV b)).run Tryz.prog w=.ok (.bool true) w:=fun x y w=>by rw [HQ.out,hd];rfl
   have HQ3:=Lib.hid HQ2
   clear hpx hd hR6 HQ2 HQ
   go_wp2_with (first | (refine wl_load rfl 42 (.tmp 6) rfl ?_;refine ⟨_,_,HLT.out,?_⟩;try simp only [zA,zB,zC,zD,zE,zF,zG,zH]) | (refine wl_load rfl 42 (.tmp 2) rfl ?_;refine ⟨_,_,HLX.out,?_⟩;try simp only [zA,zB,zC,zD,zE,zF,zG,zH]) | (refine wl_binOp rfl .neq 42 (.tmp 36) (.tmp 37) 42 rfl ?_;refine ⟨_,_,HQ3.out _ _ _,?_⟩;try simp only [zA,zB,zC,zD,zE,zF,zG,zH]) | (refine wl_store rfl 42 (.tmp 4) (.tmp 46) rfl ?_;refine ⟨_,STZ.out,?_⟩;try simp only [zA,zB,zC,zD,zE,zF,zG,zH]))
   exact bodyPost_ret (results_sup2 rfl rfl rfl SSZ.out) rfl ⟨by rw [HU.out];rfl,HK6.out.setCells (.inr HGS.out.2.2.2.2.2) _ _⟩
  have hd:decide (p=b)=true:=by simp [hpx]
  have HQ2:∀ x y w,(do eqGuard .neq 42 x y (supV p) (supV b);binOp .neq 42 (supV p) (supV b)).run Tryz.prog w=.ok (.bool false) w:=fun x y w=>by rw [HQ.out,hd];rfl
  have HQ3:=Lib.hid HQ2
  by_cases hmk:b.mark < a.mark
  ·rw [if_pos (.inr hmk)] at hR6
   have HU:=Lib.hid hR6
   clear hpx hd hR6 HQ2 HQ
   go_wp2_with (first | (refine wl_load rfl 42 (.tmp 6) rfl ?_;refine ⟨_,_,HLT.out,?_⟩;try simp only [zA,zB,zC,zD,zE,zF,zG,zH]) | (refine wl_load rfl 42 (.tmp 2) rfl ?_;refine ⟨_,_,HLX.out,?_⟩;try simp only [zA,zB,zC,zD,zE,zF,zG,zH]) | (refine wl_binOp rfl .neq 42 (.tmp 36) (.tmp 37) 42 rfl ?_;refine ⟨_,_,HQ3.out _ _ _,?_⟩;try simp only [zA,zB,zC,zD,zE,zF,zG,zH]) | (refine wl_store rfl 42 (.tmp 4) (.tmp 46) rfl ?_;refine ⟨_,STZ.out,?_⟩;try simp only [zA,zB,zC,zD,zE,zF,zG,zH]))
   exact bodyPost_ret (results_sup2 rfl rfl rfl SSZ.out) rfl ⟨by rw [HU.out];rfl,HK6.out.setCells (.inr HGS.out.2.2.2.2.2) _ _⟩
  ·rw [if_neg (by rintro (h | h);exact h hpx;exact hmk h)] at hR6
   have HU:=Lib.hid hR6
   clear hpx hd hR6 HQ2 HQ
   go_wp2_with (first | (refine wl_load rfl 42 (.tmp 6) rfl ?_;refine ⟨_,_,HLT.out,?_⟩;try simp only [zA,zB,zC,zD,zE,zF,zG,zH]) | (refine wl_load rfl 42 (.tmp 2) rfl ?_;refine ⟨_,_,HLX.out,?_⟩;try simp only [zA,zB,zC,zD,zE,zF,zG,zH]) | (refine wl_binOp rfl .neq 42 (.tmp 36) (.tmp 37) 42 rfl ?_;refine ⟨_,_,HQ3.out _ _ _,?_⟩;try simp only [zA,zB,zC,zD,zE,zF,zG,zH]) | (refine wl_store rfl 42 (.tmp 4) (.tmp 47) rfl ?_;refine ⟨_,STX.out,?_⟩;try simp only [zA,zB,zC,zD,zE,zF,zG,zH]))
   exact bodyPost_ret (results_sup2 rfl rfl rfl SSX.out) rfl ⟨by rw [HU.out];rfl,HK6.out.setCells (.inr HGS.out.2.2.2.2.2) _ _⟩
 ·simp only [if_neg hlt] at hR
  have HR:=Lib.hid hR
  have HX4:=HA
  have HY4:=HB
  have HZ4:=HZ
  have HK4:=HK
  obtain ⟨w4,hw4⟩:∃ w4,w4=w1:=⟨_,rfl⟩
  rw [← hw4] at HX4 HY4 HZ4 HK4 ca1 cb1 HW
  have n4:=HGS.out.2.2.2.1
  clear hR HA HB HZ HK hw4
  go_enter Tryz.func90,Tryz.ntmps90
  go_upto_region 1 with fail
  rw [← HW.out,← HG2.out,← HG1.out,← HG.out]
  go_upto_region 5 with fail
  clear ca1 cb1 hlt n4
  have HLY:=Lib.hid HY4.out.load
  obtain ⟨w5,hw5⟩:∃ w5,w5=w4.alloc (.cells (supC b).toArray 42 (0,0)):=⟨_,rfl⟩
  obtain ⟨g3,hg3⟩:∃ g3,g3=w4.heap.size:=⟨_,rfl⟩
  have hk45:Keeps [] w4 w5:=by rw [hw5];exact (Keeps.refl _ _).alloc _
  have st5:SupAt w5 g3 b:=by rw [hw5];exact heap_new_at hg3
  have hst5:=run_storeAt_new (P:=Tryz.prog) w4 42 #[.int .i64 0,.int .i64 0,.int .i64 0,.int .i64 0,.int .i64 0] (supC b).toArray (by rw [size_super];rfl) rfl (all_oneCell_toArray (supC_one _))
  have HST5:=Lib.hid hst5
  have HX5:=Lib.hid (HX4.out.keeps hk45 (by simp))
  have HY5:=Lib.hid (HY4.out.keeps hk45 (by simp))
  have HZ5:=Lib.hid (HZ4.out.keeps hk45 (by simp))
  have HK5:=Lib.hid (HK4.out.trans (G:=[]) hk45 (by simp))
  have HW5:=Lib.hid hw5
  have HG3:=Lib.hid hg3
  have HT5:=Lib.hid st5
  have hne3:g≠g3∧g1≠g3∧g2≠g3:=by
   have l1:=lt_of_heap HX4.out
   have l2:=lt_of_heap HY4.out
   have l3:=lt_of_heap HZ4.out
   omega
  have HG30:=Lib.hid (show w.heap.size≤g3 by have:=HK4.out.size;omega)
  have HNE:=Lib.hid hne3
  obtain ⟨p,hp⟩:∃ p:Sup,p=⟨b.width,b.gen+1,a.mark,a.head,b.pages⟩:=⟨_,rfl⟩
  obtain ⟨w6,hw6⟩:∃ w6,w6=(((w5.setCell ⟨g3,1,none⟩ (.int .i64 (b.gen+1))).setCell ⟨g3,2,none⟩ (.int .i64 a.mark)).setCell ⟨g3,3,none⟩ (.int .i64 a.head)).drew:=⟨_,rfl⟩
  have st6:SupAt w6 g3 p:=by
   have h1:=heap_setCell_same w5 g3 1 _ _ (.int .i64 (b.gen+1)) st5
   have h2:=heap_setCell_same _ g3 2 _ _ (.int .i64 a.mark) h1
   have h3:=heap_setCell_same _ g3 3 _ _ (.int .i64 a.head) h2
   rw [hw6,hp]
   exact h3
  have hk56:Keeps [g3] w5 w6:=by rw [hw6];exact ((((Keeps.refl _ _).setCell (.inl (by simp)) _).setCell (.inl (by simp)) _).setCell (.inl (by simp)) _).drew
  have HX6:=Lib.hid (HX5.out.keeps hk56 (by simpa using hne3.1))
  have HY6:=Lib.hid (HY5.out.keeps hk56 (by simpa using hne3.2.1))
  have HZ6:=Lib.hid (HZ5.out.keeps hk56 (by simpa using hne3.2.2))
  have HK6:=Lib.hid ((HK5.out.trans (G:=[g3]) hk56 (fun k hk=>.inr (by simp at hk;subst hk;exact HG30.out))))
  have HT6:=Lib.hid st6
  have HW6:=Lib.hid hw6
  have HP:=Lib.hid hp
  have hcell:∀ wx,Keeps [g3] w5 wx→wx.cell? ⟨g1,1,none⟩=some (.int .i64 b.gen)∧wx.cell? ⟨g,2,none⟩=some (.int .i64 a.mark)∧wx.cell? ⟨g,3,none⟩=some (.int .i64 a.head):=fun wx hk=>by
   have hx:=HX5.out.keeps hk (by simpa using HNE.out.1)
   have hy:=HY5.out.keeps hk (by simpa using HNE.out.2.1)
   exact ⟨hy.cells.2.1,hx.cells.2.2.1,hx.cells.2.2.2.1⟩
  have HC:=Lib.hid hcell
  clear hw5 hg3 hk45 st5 hst5 hne3 hp hw6 st6 hk56 hcell
  go_upto_region 6 with (first | (refine wl_load rfl 42 (.tmp 3) rfl ?_;refine ⟨_,_,HLY.out,?_⟩;try simp only [zA,zB,zC,zD,zE,zF,zG,zH]) | (refine wl_store rfl 42 (.tmp 6) (.tmp 25) rfl ?_;refine ⟨_,HST5.out,?_⟩;try simp only [zA,zB,zC,zD,zE,zF,zG,zH]))
  rw [show w4.alloc (.cells (supC b).toArray 42)=w5 from HW5.out.symm,← HG3.out]
  have ct1:=HT5.out.cells.2.1
  have ct2:=HT5.out.cells.2.2.1
  have ct3:=HT5.out.cells.2.2.2.1
  have f1:=HT5.out.free 1
  have f2:=HT5.out.free 2
  have f3:=HT5.out.free 3
  have e1:IntKind.i64.wrap (b.gen+1)=b.gen+1:=IntWalk.i64_in _ (by have:=B1.out;omega)
  refine wp_region_held_drew (S:=(fun w'=>w'.cell? ⟨g1,1,none⟩=some (.int .i64 b.gen)∧w'.cell? ⟨g,2,none⟩=some (.int .i64 a.mark)∧w'.cell? ⟨g,3,none⟩=some (.int .i64 a.head))) (by kernel_rfl) ?_ (fun hHeld=>?_)
  ·exact HC.out w5.drew (Keeps.refl _ _).drew
  refine tk 0 ?_
  refine tk 1 ?_
  refine tk 2 ?_
  refine tk 3 ?_
  refine tk 4 ?_
  refine tk 5 ?_
  refine tk 6 ?_
  refine tk 7 ?_
  refine ac 8 fun K hK=>?_
  go_simp
  refine hK.out _ _ ?_ (fun hHeld=>?_)
  ·exact HC.out _ (((Keeps.refl _ _).setCell (.inl (by simp)) _).drew)
  clear hK K
  try simp only [zA,zB,zC,zD,zE,zF,zG,zH]
  refine tk 9 ?_
  refine ac 10 fun K hK=>?_
  go_simp
  refine hK.out _ _ ?_ (fun hHeld=>?_)
  ·exact HC.out _ ((((Keeps.refl _ _).setCell (.inl (by simp)) _).setCell (.inl (by simp)) _).drew)
  clear hK K
  try simp only [zA,zB,zC,zD,zE,zF,zG,zH]
  refine tk 11 ?_
  refine ac 12 fun K hK=>?_
  go_simp
  refine hK.out _ _ ?_ (fun hHeld=>?_)
  ·exact HC.out _ (((((Keeps.refl _ _).setCell (.inl (by simp)) _).setCell (.inl (by simp)) _).setCell (.inl (by simp)) _).drew)
  clear hK K
  try simp only [zA,zB,zC,zD,zE,zF,zG,zH]
  refine wpAnyH_done (by kernel_rfl) ?_ _
  rw [← HW6.out]
  clear ct1 ct2 ct3 f1 f2 f3 e1 hHeld HC HST5 HLY HW5 HW6 HG3
  have HLT:=Lib.hid HT6.out.load
  have HLX:=Lib.hid HX6.out.load
  have hq:=fun x y w=>run_neq_super x y p a w
  have HQ:=Lib.hid hq
  clear hq
  have cm1:=HX6.out.cells.2.2.1
  have cm2:=HY6.out.cells.2.2.1
  obtain ⟨stz,ssz⟩:=HZ6.out.store zSup
  obtain ⟨stx,ssx⟩:=HZ6.out.store a
  have STZ:=Lib.hid stz
  have SSZ:=Lib.hid ssz
  have STX:=Lib.hid stx
  have SSX:=Lib.hid ssx
  clear stz ssz stx ssx
  have hR6:=HR.out
  rw [← HP.out] at hR6
  clear HR HP
  by_cases hpx:p=a
  rotate_left 1
  ·have hd:decide (p=a)=false:=by simp [hpx]
   rw [if_pos (.inl hpx)] at hR6
   have HU:=Lib.hid hR6
   have HQ2:∀ x y w,(do eqGuard .neq 42 x y (supV p) (supV a);binOp .neq 42 (supV p) (supV a)).run Tryz.prog w=.ok (.bool true) w:=fun x y w=>by rw [HQ.out,hd];rfl
   have HQ3:=Lib.hid HQ2
   clear hpx hd hR6 HQ2 HQ
   go_wp2_with (first | (refine wl_load rfl 42 (.tmp 6) rfl ?_;refine ⟨_,_,HLT.out,?_⟩;try simp only [zA,zB,zC,zD,zE,zF,zG,zH]) | (refine wl_load rfl 42 (.tmp 2) rfl ?_;refine ⟨_,_,HLX.out,?_⟩;try simp only [zA,zB,zC,zD,zE,zF,zG,zH]) | (refine wl_binOp rfl .neq 42 (.tmp 36) (.tmp 37) 42 rfl ?_;refine ⟨_,_,HQ3.out _ _ _,?_⟩;try simp only [zA,zB,zC,zD,zE,zF,zG,zH]) | (refine wl_store rfl 42 (.tmp 4) (.tmp 46) rfl ?_;refine ⟨_,STZ.out,?_⟩;try simp only [zA,zB,zC,zD,zE,zF,zG,zH]))
   exact bodyPost_ret (results_sup2 rfl rfl rfl SSZ.out) rfl ⟨by rw [HU.out];rfl,HK6.out.setCells (.inr HGS.out.2.2.2.2.2) _ _⟩
  have hd:decide (p=a)=true:=by simp [hpx]
  have HQ2:∀ x y w,(do eqGuard .neq 42 x y (supV p) (supV a);binOp .neq 42 (supV p) (supV a)).run Tryz.prog w=.ok (.bool false) w:=fun x y w=>by rw [HQ.out,hd];rfl
  have HQ3:=Lib.hid HQ2
  by_cases hmk:a.mark < b.mark
  ·rw [if_pos (.inr hmk)] at hR6
   have HU:=Lib.hid hR6
   clear hpx hd hR6 HQ2 HQ
   go_wp2_with (first | (refine wl_load rfl 42 (.tmp 6) rfl ?_;refine ⟨_,_,HLT.out,?_⟩;try simp only [zA,zB,zC,zD,zE,zF,zG,zH]) | (refine wl_load rfl 42 (.tmp 2) rfl ?_;refine ⟨_,_,HLX.out,?_⟩;try simp only [zA,zB,zC,zD,zE,zF,zG,zH]) | (refine wl_binOp rfl .neq 42 (.tmp 36) (.tmp 37) 42 rfl ?_;refine ⟨_,_,HQ3.out _ _ _,?_⟩;try simp only [zA,zB,zC,zD,zE,zF,zG,zH]) | (refine wl_store rfl 42 (.tmp 4) (.tmp 46) rfl ?_;refine ⟨_,STZ.out,?_⟩;try simp only [zA,zB,zC,zD,zE,zF,zG,zH]))
   exact bodyPost_ret (results_sup2 rfl rfl rfl SSZ.out) rfl ⟨by rw [HU.out];rfl,HK6.out.setCells (.inr HGS.out.2.2.2.2.2) _ _⟩
  ·rw [if_neg (by rintro (h | h);exact h hpx;exact hmk h)] at hR6
   have HU:=Lib.hid hR6
   clear hpx hd hR6 HQ2 HQ
   go_wp2_with (first | (refine wl_load rfl 42 (.tmp 6) rfl ?_;refine ⟨_,_,HLT.out,?_⟩;try simp only [zA,zB,zC,zD,zE,zF,zG,zH]) | (refine wl_load rfl 42 (.tmp 2) rfl ?_;refine ⟨_,_,HLX.out,?_⟩;try simp only [zA,zB,zC,zD,zE,zF,zG,zH]) | (refine wl_binOp rfl .neq 42 (.tmp 36) (.tmp 37) 42 rfl ?_;refine ⟨_,_,HQ3.out _ _ _,?_⟩;try simp only [zA,zB,zC,zD,zE,zF,zG,zH]) | (refine wl_store rfl 42 (.tmp 4) (.tmp 47) rfl ?_;refine ⟨_,STX.out,?_⟩;try simp only [zA,zB,zC,zD,zE,zF,zG,zH]))
   exact bodyPost_ret (results_sup2 rfl rfl rfl SSX.out) rfl ⟨by rw [HU.out];rfl,HK6.out.setCells (.inr HGS.out.2.2.2.2.2) _ _⟩
open Go.RowKit
theorem unsup_valid {l:List UInt8} (h:(unsupL l).1=0):(unsupL l).2.valid=true:=by
 unfold unsupL at h ⊢
 split at h
 ·simp at h
 split at h
 ·simp at h
 split at h
 ·simp at h
 split at h
 ·simp at h
 rename_i h1 h2 h3 h4
 rw [if_neg h1,if_neg h2,if_neg h3,if_neg h4]
 simpa using h4
theorem valid_inGen {s:Sup} (h:s.valid=true):s.inGen:=by
 unfold Sup.valid at h
 simp only [Bool.and_eq_true,decide_eq_true_eq] at h
 obtain ⟨⟨⟨⟨⟨⟨⟨⟨h1,h2⟩,h3⟩,h4⟩,_⟩,_⟩,_⟩,_⟩,_⟩:=h
 exact ⟨h3,h4⟩
set_option maxRecDepth 100000 in
set_option maxHeartbeats 1600000 in
theorem choose_any {w:World} {v1 v2:Value} {l1 l2:List UInt8} (h1:BytesAt w v1 l1) (h2:BytesAt w v2 l2) :
  Calls Tryz.prog 67 #[v1,v2] w fun e w'=>e=.returned (.tuple #[supV (chooseL l1 l2).2,.int .i64 (chooseL l1 l2).1])∧Keeps [] w w':=by
 obtain ⟨R,hR⟩:∃ R,R=chooseL l1 l2:=⟨_,rfl⟩
 rw [← hR]
 unfold chooseL at hR
 obtain ⟨w0,hw0⟩:∃ w0,w0=w.alloc (.cells #[.int .i64 0,.int .i64 0,.int .i64 0,.int .i64 0,.int .i64 0] 42 (0,0)):=⟨_,rfl⟩
 obtain ⟨g0,hg0⟩:∃ g,g=w.heap.size:=⟨_,rfl⟩
 have hz0:SupAt w0 g0 zSup:=by rw [hw0];exact heap_new_at hg0
 have hk0:Keeps [] w w0:=by rw [hw0];exact (Keeps.refl _ _).alloc _
 have CA:=Lib.hid (unpackSuper_any (h1.keeps hk0 (by simp)))
 obtain ⟨RA,hRA⟩:∃ r,r=unsupL l1:=⟨_,rfl⟩
 obtain ⟨RB,hRB⟩:∃ r,r=unsupL l2:=⟨_,rfl⟩
 obtain ⟨ea,hea⟩:∃ r,r=emptyL l1:=⟨_,rfl⟩
 obtain ⟨eb,heb⟩:∃ r,r=emptyL l2:=⟨_,rfl⟩
 have va:RA.1=0→RA.2.inGen:=fun h=>by subst hRA;exact valid_inGen (unsup_valid h)
 have vb:RB.1=0→RB.2.inGen:=fun h=>by subst hRB;exact valid_inGen (unsup_valid h)
 have C2:∀ wx,Keeps [] w wx→Calls Tryz.prog 89 #[v2] wx fun e w'=>e=.returned (.tuple #[supV RB.2,.int .i64 RB.1])∧Keeps [] wx w':=fun wx hk=>by
  subst hRB;exact unpackSuper_any (h2.keeps hk (by simp))
 have hE1:∀ wx,Keeps [] w wx→Calls Tryz.prog 91 #[v1] wx fun e w'=>e=.returned (.bool ea)∧wx=w':=fun wx hk=>by
  subst hea;exact empty_any (h1.keeps hk (by simp))
 have hE2:∀ wx,Keeps [] w wx→Calls Tryz.prog 91 #[v2] wx fun e w'=>e=.returned (.bool eb)∧wx=w':=fun wx hk=>by
  subst heb;exact empty_any (h2.keeps hk (by simp))
 rw [← hRA,← hRB,← hea,← heb] at hR
 rw [← hRA] at CA
 have CB:=Lib.hid C2
 have E1:=Lib.hid hE1
 have E2:=Lib.hid hE2
 have VA:=Lib.hid va
 have VB:=Lib.hid vb
 have HR:=Lib.hid hR
 have HW0:=Lib.hid hw0
 have HG:=Lib.hid hg0
 have HG0:=Lib.hid (show w.heap.size≤g0 by omega)
 have HZ0:=Lib.hid hz0
 have HK0:=Lib.hid hk0
 clear h1 h2 hR hw0 hg0 hz0 hk0 hRA hRB hea heb va vb C2 hE1 hE2
 obtain ⟨e1,x⟩:=RA
 obtain ⟨e2,y⟩:=RB
 go_enter Tryz.func67,Tryz.ntmps67
 go_upto_region 1 with fail
 rw [← HW0.out,← HG.out]
 go_wp2_with fail
 refine CA.out.mono ?_
 rintro e w1 ⟨rfl,hk1⟩
 obtain ⟨w2,hw2⟩:∃ w2,w2=w1.alloc (.cells (supC x).toArray 42 (0,0)):=⟨_,rfl⟩
 obtain ⟨gx,hgx⟩:∃ g,g=w1.heap.size:=⟨_,rfl⟩
 have hst2:=run_storeAt_new (P:=Tryz.prog) w1 42 #[.int .i64 0,.int .i64 0,.int .i64 0,.int .i64 0,.int .i64 0] (supC x).toArray (by rw [size_super];rfl) rfl (all_oneCell_toArray (supC_one _))
 have hk12:Keeps [] w1 w2:=by rw [hw2];exact (Keeps.refl _ _).alloc _
 have hx2:SupAt w2 gx x:=by rw [hw2];exact heap_new_at hgx
 have HK2:=Lib.hid (HK0.out.trans (G:=[]) (hk1.trans (G:=[]) hk12 (by simp)) (by simp))
 have HZ2:=Lib.hid ((HZ0.out.keeps hk1 (by simp)).keeps hk12 (by simp))
 have HX2:=Lib.hid hx2
 have HST2:=Lib.hid hst2
 have HW2:=Lib.hid hw2
 have HGX:=Lib.hid hgx
 have CB2:=Lib.hid (CB.out w2 HK2.out)
 clear hk1 hw2 hgx hst2 hk12 hx2 CA CB
 go_upto_region 2 with (first | (refine wl_store rfl 42 (.tmp 6) (.tmp 13) rfl ?_;refine ⟨_,HST2.out,?_⟩;try simp only [zA,zB,zC,zD,zE,zF,zG,zH]))
 rw [show w1.alloc (.cells (supC x).toArray 42)=w2 from HW2.out.symm,← HGX.out]
 go_wp2_with fail
 refine CB2.out.mono ?_
 rintro e w3 ⟨rfl,hk3⟩
 obtain ⟨w4,hw4⟩:∃ w4,w4=w3.alloc (.cells (supC y).toArray 42 (0,0)):=⟨_,rfl⟩
 obtain ⟨gy,hgy⟩:∃ g,g=w3.heap.size:=⟨_,rfl⟩
 have hst4:=run_storeAt_new (P:=Tryz.prog) w3 42 #[.int .i64 0,.int .i64 0,.int .i64 0,.int .i64 0,.int .i64 0] (supC y).toArray (by rw [size_super];rfl) rfl (all_oneCell_toArray (supC_one _))
 have hk34:Keeps [] w3 w4:=by rw [hw4];exact (Keeps.refl _ _).alloc _
 have hy4:SupAt w4 gy y:=by rw [hw4];exact heap_new_at hgy
 have HK4:=Lib.hid (HK2.out.trans (G:=[]) (hk3.trans (G:=[]) hk34 (by simp)) (by simp))
 have HZ4:=Lib.hid ((HZ2.out.keeps hk3 (by simp)).keeps hk34 (by simp))
 have HX4:=Lib.hid ((HX2.out.keeps hk3 (by simp)).keeps hk34 (by simp))
 have HY4:=Lib.hid hy4
 have HST4:=Lib.hid hst4
 have HW4:=Lib.hid hw4
 have HGY:=Lib.hid hgy
 have EA:=Lib.hid (E1.out w4 HK4.out)
 have EB:=Lib.hid (E2.out w4 HK4.out)
 have HLX:=Lib.hid HX4.out.load
 have HLY:=Lib.hid HY4.out.load
 obtain ⟨stz,ssz⟩:=HZ4.out.store zSup
 have STZ:=Lib.hid stz
 have SSZ:=Lib.hid ssz
 clear hk3 hw4 hgy hst4 hk34 hy4 CB2 stz ssz E1 E2
 go_upto_region 3 with (first | (refine wl_store rfl 42 (.tmp 8) (.tmp 18) rfl ?_;refine ⟨_,HST4.out,?_⟩;try simp only [zA,zB,zC,zD,zE,zF,zG,zH]))
 rw [show w3.alloc (.cells (supC y).toArray 42)=w4 from HW4.out.symm,← HGY.out]
 clear HST2 HST4 HW2 HW4 HGX HGY HX2 HZ2
 have hR:=HR.out
 try dsimp only at hR
 have hVA:=VA.out
 have hVB:=VB.out
 try dsimp only at hVA hVB
 clear HR VA VB
 by_cases h1:e1=0
 ·subst h1
  have hga:=hVA rfl
  clear hVA
  by_cases h2:e2=0
  ·subst h2
   have hgb:=hVB rfl
   rw [if_pos ⟨rfl,rfl⟩] at hR
   have HU:=Lib.hid hR
   have CN:=Lib.hid (newer_any (w:=w4) hga hgb)
   clear hR hga hgb hVB
   go_wp2_with (first | (refine wl_load rfl 42 (.tmp 6) rfl ?_;refine ⟨_,_,HLX.out,?_⟩;try simp only [zA,zB,zC,zD,zE,zF,zG,zH]) | (refine wl_load rfl 42 (.tmp 8) rfl ?_;refine ⟨_,_,HLY.out,?_⟩;try simp only [zA,zB,zC,zD,zE,zF,zG,zH]))
   refine CN.out.mono ?_
   rintro e w5 ⟨rfl,hk5⟩
   obtain ⟨st5,ss5⟩:=(HZ4.out.keeps hk5 (by simp)).store (newerL x y).2
   have ST5:=Lib.hid st5
   have SS5:=Lib.hid ss5
   have HK5:=Lib.hid (HK4.out.trans (G:=[]) hk5 (by simp))
   clear hk5 st5 ss5
   go_wp2_with (first | (refine wl_store rfl 42 (.tmp 4) (.tmp 45) rfl ?_;refine ⟨_,ST5.out,?_⟩;try simp only [zA,zB,zC,zD,zE,zF,zG,zH]))
   exact bodyPost_ret (results_sup2 rfl rfl rfl SS5.out) rfl ⟨by rw [HU.out];rfl,HK5.out.setCells (.inr HG0.out) _ _⟩
  ·have q2:(e2 == 0)=false:=by simpa using h2
   rw [if_neg (by rintro ⟨_,h⟩;exact h2 h)] at hR
   clear hVB hga
   cases eb with
   | false =>
    have HU:=Lib.hid (show R=(4,zSup) by rw [hR];rfl)
    clear hR h2
    go_wp2_with (first | (refine wl_load rfl 42 (.tmp 6) rfl ?_;refine ⟨_,_,HLX.out,?_⟩;try simp only [zA,zB,zC,zD,zE,zF,zG,zH]) | (refine wl_load rfl 42 (.tmp 8) rfl ?_;refine ⟨_,_,HLY.out,?_⟩;try simp only [zA,zB,zC,zD,zE,zF,zG,zH]) | (go_at_call 91;((with_reducible refine EB.out.mono ?_);rintro e w' ⟨rfl,rfl⟩)) | (go_at_call 91;((with_reducible refine EA.out.mono ?_);rintro e w' ⟨rfl,rfl⟩)) | (refine wl_store rfl 42 (.tmp 4) (.tmp 47) rfl ?_;refine ⟨_,STZ.out,?_⟩;try simp only [zA,zB,zC,zD,zE,zF,zG,zH]))
    exact bodyPost_ret (results_sup2 rfl rfl rfl SSZ.out) rfl ⟨by rw [HU.out];rfl,HK4.out.setCells (.inr HG0.out) _ _⟩
   | true =>
   rw [if_neg (by simp)] at hR
   by_cases hgn:x.gen=0
   ·have HU:=Lib.hid (show R=(55,zSup) by rw [hR,if_pos (.inl ⟨rfl,hgn⟩)])
    have cx:=HX4.out.cells.2.1
    rw [hgn] at cx
    clear hR h2 hgn
    go_wp2_with (first | (refine wl_load rfl 42 (.tmp 6) rfl ?_;refine ⟨_,_,HLX.out,?_⟩;try simp only [zA,zB,zC,zD,zE,zF,zG,zH]) | (refine wl_load rfl 42 (.tmp 8) rfl ?_;refine ⟨_,_,HLY.out,?_⟩;try simp only [zA,zB,zC,zD,zE,zF,zG,zH]) | (go_at_call 91;((with_reducible refine EB.out.mono ?_);rintro e w' ⟨rfl,rfl⟩)) | (go_at_call 91;((with_reducible refine EA.out.mono ?_);rintro e w' ⟨rfl,rfl⟩)) | (refine wl_store rfl 42 (.tmp 4) (.tmp 48) rfl ?_;refine ⟨_,STZ.out,?_⟩;try simp only [zA,zB,zC,zD,zE,zF,zG,zH]))
    exact bodyPost_ret (results_sup2 rfl rfl rfl SSZ.out) rfl ⟨by rw [HU.out];rfl,HK4.out.setCells (.inr HG0.out) _ _⟩
   ·have cx:=HX4.out.cells.2.1
    obtain ⟨n,hn⟩:∃ n,n=x.gen:=⟨_,rfl⟩
    rw [← hn] at cx hgn hR
    have qn:(n == 0)=false:=by simpa using hgn
    cases ea with
    | true =>
     have HU:=Lib.hid (show R=(55,zSup) by rw [hR,if_pos (.inr rfl)])
     clear hR h2 hn hgn
     go_wp2_with (first | (refine wl_load rfl 42 (.tmp 6) rfl ?_;refine ⟨_,_,HLX.out,?_⟩;try simp only [zA,zB,zC,zD,zE,zF,zG,zH]) | (refine wl_load rfl 42 (.tmp 8) rfl ?_;refine ⟨_,_,HLY.out,?_⟩;try simp only [zA,zB,zC,zD,zE,zF,zG,zH]) | (go_at_call 91;((with_reducible refine EB.out.mono ?_);rintro e w' ⟨rfl,rfl⟩)) | (go_at_call 91;((with_reducible refine EA.out.mono ?_);rintro e w' ⟨rfl,rfl⟩)) | (refine wl_store rfl 42 (.tmp 4) (.tmp 48) rfl ?_;refine ⟨_,STZ.out,?_⟩;try simp only [zA,zB,zC,zD,zE,zF,zG,zH]))
     exact bodyPost_ret (results_sup2 rfl rfl rfl SSZ.out) rfl ⟨by rw [HU.out];rfl,HK4.out.setCells (.inr HG0.out) _ _⟩
    | false =>
     have HU:=Lib.hid (show R=(4,zSup) by rw [hR,if_neg (by rintro (h | h);exact hgn h.2;exact absurd h (by simp))])
     clear hR h2 hn hgn
     go_wp2_with (first | (refine wl_load rfl 42 (.tmp 6) rfl ?_;refine ⟨_,_,HLX.out,?_⟩;try simp only [zA,zB,zC,zD,zE,zF,zG,zH]) | (refine wl_load rfl 42 (.tmp 8) rfl ?_;refine ⟨_,_,HLY.out,?_⟩;try simp only [zA,zB,zC,zD,zE,zF,zG,zH]) | (go_at_call 91;((with_reducible refine EB.out.mono ?_);rintro e w' ⟨rfl,rfl⟩)) | (go_at_call 91;((with_reducible refine EA.out.mono ?_);rintro e w' ⟨rfl,rfl⟩)) | (refine wl_store rfl 42 (.tmp 4) (.tmp 49) rfl ?_;refine ⟨_,STZ.out,?_⟩;try simp only [zA,zB,zC,zD,zE,zF,zG,zH]))
     exact bodyPost_ret (results_sup2 rfl rfl rfl SSZ.out) rfl ⟨by rw [HU.out];rfl,HK4.out.setCells (.inr HG0.out) _ _⟩
 ·have q1:(e1 == 0)=false:=by simpa using h1
  rw [if_neg (by rintro ⟨h,_⟩;exact h1 h)] at hR
  clear hVA hVB
  cases eb with
  | false =>
   have HU:=Lib.hid (show R=(4,zSup) by rw [hR];rfl)
   clear hR h1
   go_wp2_with (first | (refine wl_load rfl 42 (.tmp 6) rfl ?_;refine ⟨_,_,HLX.out,?_⟩;try simp only [zA,zB,zC,zD,zE,zF,zG,zH]) | (refine wl_load rfl 42 (.tmp 8) rfl ?_;refine ⟨_,_,HLY.out,?_⟩;try simp only [zA,zB,zC,zD,zE,zF,zG,zH]) | (go_at_call 91;((with_reducible refine EB.out.mono ?_);rintro e w' ⟨rfl,rfl⟩)) | (go_at_call 91;((with_reducible refine EA.out.mono ?_);rintro e w' ⟨rfl,rfl⟩)) | (refine wl_store rfl 42 (.tmp 4) (.tmp 47) rfl ?_;refine ⟨_,STZ.out,?_⟩;try simp only [zA,zB,zC,zD,zE,zF,zG,zH]))
   exact bodyPost_ret (results_sup2 rfl rfl rfl SSZ.out) rfl ⟨by rw [HU.out];rfl,HK4.out.setCells (.inr HG0.out) _ _⟩
  | true =>
  rw [if_neg (by simp)] at hR
  cases ea with
  | true =>
   have HU:=Lib.hid (show R=(55,zSup) by rw [hR,if_pos (.inr rfl)])
   clear hR h1
   go_wp2_with (first | (refine wl_load rfl 42 (.tmp 6) rfl ?_;refine ⟨_,_,HLX.out,?_⟩;try simp only [zA,zB,zC,zD,zE,zF,zG,zH]) | (refine wl_load rfl 42 (.tmp 8) rfl ?_;refine ⟨_,_,HLY.out,?_⟩;try simp only [zA,zB,zC,zD,zE,zF,zG,zH]) | (go_at_call 91;((with_reducible refine EB.out.mono ?_);rintro e w' ⟨rfl,rfl⟩)) | (go_at_call 91;((with_reducible refine EA.out.mono ?_);rintro e w' ⟨rfl,rfl⟩)) | (refine wl_store rfl 42 (.tmp 4) (.tmp 48) rfl ?_;refine ⟨_,STZ.out,?_⟩;try simp only [zA,zB,zC,zD,zE,zF,zG,zH]))
   exact bodyPost_ret (results_sup2 rfl rfl rfl SSZ.out) rfl ⟨by rw [HU.out];rfl,HK4.out.setCells (.inr HG0.out) _ _⟩
  | false =>
   have HU:=Lib.hid (show R=(4,zSup) by rw [hR,if_neg (by rintro (h | h);exact h1 h.1;exact absurd h (by simp))])
   clear hR h1
   go_wp2_with (first | (refine wl_load rfl 42 (.tmp 6) rfl ?_;refine ⟨_,_,HLX.out,?_⟩;try simp only [zA,zB,zC,zD,zE,zF,zG,zH]) | (refine wl_load rfl 42 (.tmp 8) rfl ?_;refine ⟨_,_,HLY.out,?_⟩;try simp only [zA,zB,zC,zD,zE,zF,zG,zH]) | (go_at_call 91;((with_reducible refine EB.out.mono ?_);rintro e w' ⟨rfl,rfl⟩)) | (go_at_call 91;((with_reducible refine EA.out.mono ?_);rintro e w' ⟨rfl,rfl⟩)) | (refine wl_store rfl 42 (.tmp 4) (.tmp 49) rfl ?_;refine ⟨_,STZ.out,?_⟩;try simp only [zA,zB,zC,zD,zE,zF,zG,zH]))
   exact bodyPost_ret (results_sup2 rfl rfl rfl SSZ.out) rfl ⟨by rw [HU.out];rfl,HK4.out.setCells (.inr HG0.out) _ _⟩
end Go.Proofs.YtakaocenbempmaaGreatDoor
