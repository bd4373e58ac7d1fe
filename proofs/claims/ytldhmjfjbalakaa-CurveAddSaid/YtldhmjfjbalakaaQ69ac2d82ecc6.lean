/- CurveAdd: for every curve and numbers the law answers true and leaves its arguments as they were. No condition. CurveAdd: the law answers true. -/
import Derived.Test.YtldhmjfjbalakaaQ29fbdac6c5ee
namespace Go.Proofs.Ytldhmjfjbalakaa
open Go.RowKit

set_option maxRecDepth 100000 in
set_option maxHeartbeats 16000000 in
theorem add_law_c {c : Int} {C : Crv} (hC : IsC c C) {P : Nat → Prop} {A A' : Option Addr} {cap cap' : Nat} {l l' : List Nat} (sp sp' : Bool) (w : World) (hk : RL w P A cap l) (ha : RL w P A' cap' l') (hP : ∀ b, P b → b < w.heap.size) :
 Calls Try.prog 8 #[.int .i64 c, .slice A l.length cap, .slice A' l'.length cap', .bool sp, .bool sp'] w fun e w' => e = .returned (.bool true) ∧ Ext w w' := by
 obtain ⟨l1, hl1⟩ : ∃ x, l.take 1 = x := ⟨_, rfl⟩
 obtain ⟨m1, hm1⟩ : ∃ x, l'.take 1 = x := ⟨_, rfl⟩
 obtain ⟨R, hR⟩ : ∃ R, rmulP C.M false (val 18446744073709551616 C.xl) (val 18446744073709551616 C.yl) (val 18446744073709551616 l1) = R := ⟨_, rfl⟩
 obtain ⟨R', hR'⟩ : ∃ R, rmulP C.M false (val 18446744073709551616 C.xl) (val 18446744073709551616 C.yl) (val 18446744073709551616 m1) = R := ⟨_, rfl⟩
 have Hl1 := Lib.hid hl1
 have Hm1 := Lib.hid hm1
 have HR := Lib.hid hR
 have HR' := Lib.hid hR'
 have HC := Lib.hid hC
 have HK := Lib.hid hk
 have HA := Lib.hid ha
 have HP := Lib.hid hP
 clear hl1 hm1 hR hR' hC hk ha hP
 go_enter Try.func8, Try.ntmps8
 go_upto_region 2 with (go_at_call 10; refine (begun9_any _).mono ?_; rintro e w1 ⟨rfl, hE1⟩)
 have HE1 := Lib.hid hE1
 clear hE1
 go_upto_region 3 with (first
  | (go_at_call_has 12 A; refine (point_c HC.out sp Hl1.out HR.out w1 (HK.out.below HE1.out HP.out) (fun b hb => Nat.lt_of_lt_of_le (HP.out b hb) HE1.out.bsize)).mono ?_; rintro e w2 ⟨v, bi, a, b, rfl, ⟨A3, B3, c3, d3, rfl, hx3, hy3⟩, la, lb, hG, hE2⟩)
  | (go_at_call_has 12 A'; refine (point_c HC.out sp' Hm1.out HR'.out w2 (HA.out.below (HE1.out.trans hE2) HP.out) (fun b hb => Nat.lt_of_lt_of_le (HP.out b hb) (HE1.out.trans hE2).bsize)).mono ?_; rintro e w3 ⟨v, bj, a', b', rfl, ⟨A4, B4, c4, d4, rfl, hx4, hy4⟩, la', lb', hG', hE3⟩))
 have HE := Lib.hid ((HE1.out.trans hE2).trans hE3)
 have Hp := Lib.hid ((show APn w2 (.agg #[.bool bi, .slice A3 a.length c3, .slice B3 b.length d3]) bi a b from ⟨A3, B3, c3, d3, rfl, hx3, hy3⟩).ext hE3)
 have Hr := Lib.hid (show APn w3 (.agg #[.bool bj, .slice A4 a'.length c4, .slice B4 b'.length d4]) bj a' b' from ⟨A4, B4, c4, d4, rfl, hx4, hy4⟩)
 have Hla := Lib.hid la
 have Hlb := Lib.hid lb
 have Hla' := Lib.hid la'
 have Hlb' := Lib.hid lb'
 clear hx3 hy3 hx4 hy4 la lb la' lb' hG hG' hE2 hE3 HE1
 generalize Value.slice A3 a.length c3 = s1 at *
 generalize Value.slice B3 b.length d3 = s2 at *
 generalize Value.slice A4 a'.length c4 = t1 at *
 generalize Value.slice B4 b'.length d4 = t2 at *
 have hp3 := (two_at2 w3 (.cells #[.bool bi, s1, s2] 27) (.cells #[.bool bj, t1, t2] 27)).1
 have hr3 := (two_at2 w3 (.cells #[.bool bi, s1, s2] 27) (.cells #[.bool bj, t1, t2] 27)).2.1
 have hA2 : Ext w3 ((w3.alloc (.cells #[.bool bi, s1, s2] 27)).alloc (.cells #[.bool bj, t1, t2] 27)) := (Ext.alloc _ _).trans (Ext.alloc _ _)
 replace HE := Lib.hid (HE.out.trans hA2)
 replace Hp := Lib.hid (Hp.out.ext hA2)
 replace Hr := Lib.hid (Hr.out.ext hA2)
 generalize hV : (w3.alloc (.cells #[.bool bi, s1, s2] 27)).alloc (.cells #[.bool bj, t1, t2] 27) = V3 at *
 obtain ⟨b3, hq⟩ : ∃ b, w3.heap.size = b := ⟨_, rfl⟩
 rw [hq] at hp3 hr3 ⊢
 clear hV hq hA2
 go_upto_region 4 with (go_at_call 13; refine (refOf_c HC.out _).mono ?_; rintro e w4 ⟨v, rfl, ⟨Ap, An, Ab, Ax, Ay, cp, cn, cb, cx, cy, rfl, hp, hn, hb, hx, hy⟩, hE4⟩)
 have Hrc := Lib.hid (show RC w4 C (.agg #[.slice Ap (digs 4294967296 C.M).length cp, .slice An (digs 4294967296 (val 18446744073709551616 C.nl)).length cn, .slice Ab (digs 4294967296 C.bb).length cb, .slice Ax (digs 4294967296 (val 18446744073709551616 C.xl)).length cx, .slice Ay (digs 4294967296 (val 18446744073709551616 C.yl)).length cy, .int .i64 (C.size : Int)]) from ⟨Ap, An, Ab, Ax, Ay, cp, cn, cb, cx, cy, rfl, hp, hn, hb, hx, hy⟩)
 clear hp hn hb hx hy
 replace hp3 := hE4.at_ hp3
 replace hr3 := hE4.at_ hr3
 replace HE := Lib.hid (HE.out.trans hE4)
 replace Hp := Lib.hid (Hp.out.ext hE4)
 replace Hr := Lib.hid (Hr.out.ext hE4)
 clear hE4
 have hc4 := heap_alloc_new w4 (.cells #[.slice Ap (digs 4294967296 C.M).length cp, .slice An (digs 4294967296 (val 18446744073709551616 C.nl)).length cn, .slice Ab (digs 4294967296 C.bb).length cb, .slice Ax (digs 4294967296 (val 18446744073709551616 C.xl)).length cx, .slice Ay (digs 4294967296 (val 18446744073709551616 C.yl)).length cy, .int .i64 (C.size : Int)] 31)
 have hA := Ext.alloc w4 (.cells #[.slice Ap (digs 4294967296 C.M).length cp, .slice An (digs 4294967296 (val 18446744073709551616 C.nl)).length cn, .slice Ab (digs 4294967296 C.bb).length cb, .slice Ax (digs 4294967296 (val 18446744073709551616 C.xl)).length cx, .slice Ay (digs 4294967296 (val 18446744073709551616 C.yl)).length cy, .int .i64 (C.size : Int)] 31)
 replace hp3 := hA.at_ hp3
 replace hr3 := hA.at_ hr3
 replace HE := Lib.hid (HE.out.trans hA)
 replace Hp := Lib.hid (Hp.out.ext hA)
 replace Hr := Lib.hid (Hr.out.ext hA)
 replace Hrc := Lib.hid (Hrc.out.ext hA)
 generalize hV : w4.alloc (.cells #[.slice Ap (digs 4294967296 C.M).length cp, .slice An (digs 4294967296 (val 18446744073709551616 C.nl)).length cn, .slice Ab (digs 4294967296 C.bb).length cb, .slice Ax (digs 4294967296 (val 18446744073709551616 C.xl)).length cx, .slice Ay (digs 4294967296 (val 18446744073709551616 C.yl)).length cy, .int .i64 (C.size : Int)] 31) = V4 at *
 obtain ⟨b4, hq⟩ : ∃ b, w4.heap.size = b := ⟨_, rfl⟩
 rw [hq] at hc4 ⊢
 clear hV hq hA
 obtain ⟨x, hx⟩ : ∃ x, (if bi then 0 else val 18446744073709551616 a) = x := ⟨_, rfl⟩
 have Hx := Lib.hid hx
 clear hx
 obtain ⟨y, hy⟩ : ∃ x, (if bi then 0 else val 18446744073709551616 b) = x := ⟨_, rfl⟩
 have Hy := Lib.hid hy
 clear hy
 obtain ⟨u, hu⟩ : ∃ x, (if bj then 0 else val 18446744073709551616 a') = x := ⟨_, rfl⟩
 have Hu := Lib.hid hu
 clear hu
 obtain ⟨v, hv⟩ : ∃ x, (if bj then 0 else val 18446744073709551616 b') = x := ⟨_, rfl⟩
 have Hv := Lib.hid hv
 clear hv
 refine Par.region_ext (by kernel_rfl) 6 [0, 1, 0, 7, 0, 0, 63, 127] [4, 5] (fun j f X => match j with
  | 0 => f 0 = .agg #[.bool bi, s1, s2]
  | 1 => ∃ A B c d, f 1 = .agg #[.bool bi, .slice A (digs 4294967296 x).length c, .slice B (digs 4294967296 y).length d] ∧ RU X A c (digs 4294967296 x) ∧ RU X B d (digs 4294967296 y)
  | 2 => f 2 = .agg #[.bool bj, t1, t2]
  | 3 => ∃ A B c d, f 3 = .agg #[.bool bj, .slice A (digs 4294967296 u).length c, .slice B (digs 4294967296 v).length d] ∧ RU X A c (digs 4294967296 u) ∧ RU X B d (digs 4294967296 v)
  | 4 => ∃ b, f 4 = .pointer (some ⟨b, 0, none⟩) ∧ V4.heap.size ≤ b ∧ X.heap[b]? = some (.cells #[.bool false, .slice none 0 0, .slice none 0 0] 34 (0, 0))
  | 5 => ∃ b, f 5 = .pointer (some ⟨b, 0, none⟩) ∧ V4.heap.size ≤ b ∧ X.heap[b]? = some (.cells #[.bool false, .slice none 0 0, .slice none 0 0] 34 (0, 0))
  | _ => True) (by kernel_rfl) [(32, 0), (33, 1), (34, 2), (35, 3), (15, 4), (16, 5)] (by kernel_rfl) ?_
 refine lV0 1 5 hp3 infoP ?_
 refine Par.c0 2 4 (fun f => #[f 0]) (F' := 14) (fun f X hX hR => ?_) ?_
 · have e0 : f 0 = _ := hR.out 0 rfl
   simp only [e0]
   refine (rfrom_n X (Hp.out.ext hX) Hla.out Hlb.out).mono ?_
   rw [Hx.out, Hy.out]
   rintro e w2 ⟨o, rfl, ⟨A, B, c, d, rfl, hu, hv⟩, hB⟩
   exact ⟨(.agg #[.bool bi, .slice A (digs 4294967296 x).length c, .slice B (digs 4294967296 y).length d]), rfl, hB, fun Y hY => ⟨A, B, c, d, rfl, RN.up hu hY, RN.up hv hY⟩⟩
 refine lV0 3 3 hr3 infoP ?_
 refine Par.c0 4 2 (fun f => #[f 2]) (F' := 14) (fun f X hX hR => ?_) ?_
 · have e2 : f 2 = _ := hR.out 2 rfl
   simp only [e2]
   refine (rfrom_n X (Hr.out.ext hX) Hla'.out Hlb'.out).mono ?_
   rw [Hu.out, Hv.out]
   rintro e w2 ⟨o, rfl, ⟨A, B, c, d, rfl, hu, hv⟩, hB⟩
   exact ⟨(.agg #[.bool bj, .slice A (digs 4294967296 u).length c, .slice B (digs 4294967296 v).length d]), rfl, hB, fun Y hY => ⟨A, B, c, d, rfl, RN.up hu hY, RN.up hv hY⟩⟩
 refine Par.al 5 1 ?_
 refine Par.al 6 0 ?_
 refine Par.AllOps.fin ⟨fun f X hX hR hal hap => ?_⟩
 obtain ⟨A1, B1, c1, d1, (e1 : f 1 = _), h1, k1⟩ := hR 1 (by decide)
 obtain ⟨A3, B3, c3, d3, (e3 : f 3 = _), h3, k3⟩ := hR 3 (by decide)
 obtain ⟨bz4, (e4 : f 4 = _), lz4, hz4⟩ := hR 4 (by decide)
 obtain ⟨bz5, (e5 : f 5 = _), lz5, hz5⟩ := hR 5 (by decide)
 have nz5_4 : bz5 ≠ bz4 := fun e => hap 5 4 (by decide) (by decide) rfl rfl (by decide) (by rw [e5, e4, e])
 simp only [yA, yB, yD, yE, e1, e3, e4, e5]
 clear hR hal hap e1 e3 e4 e5
 refine Par.Chain.next (fun K hK => ⟨Par.want (by kernel_rfl) (wp_storeV (cs' := #[.bool bi, .slice A1 (digs 4294967296 x).length c1, .slice B1 (digs 4294967296 y).length d1]) (t := 34) 34 (.tmp 15) (.tmp 33) rfl rfl rfl rfl hz4 infoRP rfl (pt_one _ _ _ _ _ _ _) (fun Y1 h11 h12 h13 => hK.out _ _ ?_))⟩)
 refine Par.Chain.next (fun K hK => ⟨Par.want (by kernel_rfl) (wp_storeV (cs' := #[.bool bj, .slice A3 (digs 4294967296 u).length c3, .slice B3 (digs 4294967296 v).length d3]) (t := 34) 34 (.tmp 16) (.tmp 35) rfl rfl rfl rfl (h12.at_ nz5_4 hz5) infoRP rfl (pt_one _ _ _ _ _ _ _) (fun Y2 h21 h22 h23 => hK.out _ _ ?_))⟩)
 refine Par.Chain.done ?_
 have hY1 : Ext V4 Y1 := h12.ext hX lz4
 have hEY : Ext V4 Y2 := h22.ext hY1 lz5
 have hu5 := h22.at_ (Ne.symm nz5_4) h11
 have hv5 := h21
 obtain ⟨b5, hb5⟩ : ∃ b, bz4 = b := ⟨_, rfl⟩
 obtain ⟨b6, hb6⟩ : ∃ b, bz5 = b := ⟨_, rfl⟩
 have off1 := fun {A : Option Addr} {c : Nat} {l : List Nat} (h : RU X A c l) => (RN.offJ h h12 hz4 (by kernel_rfl)).offJ h22 (h12.at_ nz5_4 hz5) (by kernel_rfl)
 have Hx5 := Lib.hid (off1 h1)
 have Hy5 := Lib.hid (off1 k1)
 have Hu5 := Lib.hid (off1 h3)
 have Hv5 := Lib.hid (off1 k3)
 clear off1 h1 k1 h3 k3 h11 h12 h13 h21 h22 h23 hY1 hX
 replace hp3 := hEY.at_ hp3
 replace hr3 := hEY.at_ hr3
 replace hc4 := hEY.at_ hc4
 replace HE := Lib.hid (HE.out.trans hEY)
 replace Hp := Lib.hid (Hp.out.ext hEY)
 replace Hr := Lib.hid (Hr.out.ext hEY)
 replace Hrc := Lib.hid (Hrc.out.ext hEY)
 clear hEY hz4 hz5 lz4 lz5 nz5_4
 subst hb5 hb6
 have hq0 := onQ_bi C bi (val 18446744073709551616 a) (val 18446744073709551616 b)
 rw [Hx.out, Hy.out] at hq0
 have hq0' := onQ_bi C bj (val 18446744073709551616 a') (val 18446744073709551616 b')
 rw [Hu.out, Hv.out] at hq0'
 obtain ⟨q, hq⟩ : ∃ q, onQ C bi (val 18446744073709551616 a) (val 18446744073709551616 b) = q := ⟨_, rfl⟩
 obtain ⟨q', hq'⟩ : ∃ q, onQ C bj (val 18446744073709551616 a') (val 18446744073709551616 b') = q := ⟨_, rfl⟩
 rw [hq] at hq0
 rw [hq'] at hq0'
 have Hq := Lib.hid hq0
 have Hq' := Lib.hid hq0'
 have Ho := Lib.hid hq
 have Ho' := Lib.hid hq'
 clear hq hq' hq0 hq0'
 have hne : (q != q) = false := by cases q <;> rfl
 have hne' : (q' != q') = false := by cases q' <;> rfl
 cases q
 · have HS1 := Lib.hid (addC_off1 Ho.out : (addC C bi (val 18446744073709551616 a) (val 18446744073709551616 b) bj (val 18446744073709551616 a') (val 18446744073709551616 b')) = none)
   have HT1 := Lib.hid (negC_off Ho.out : (negC C bi (val 18446744073709551616 a) (val 18446744073709551616 b)) = none)
   have hpt := Hp.out.pt
   have hrt := Hr.out.pt
   have hadd := add_c HC.out _ hpt hrt
   rw [HS1.out] at hadd
   have Hadd := Lib.hid hadd
   clear hpt hrt hadd
   obtain ⟨y0, y1, y2, f0, f1, f2⟩ := pt_facts hp3
   obtain ⟨y0', y1', y2', f0', f1', f2'⟩ := pt_facts hr3
   go_upto_region 6 with (go_at_call 21; refine Hadd.out.mono ?_; rintro e w6 ⟨o, rfl, hv6, hE6⟩; obtain rfl : o = infV := hv6; unfold infV)
   clear y0 y1 y2 f0 f1 f2 y0' y1' y2' f0' f1' f2' Hadd
   replace hp3 := hE6.at_ hp3
   replace hr3 := hE6.at_ hr3
   replace hc4 := hE6.at_ hc4
   replace hu5 := hE6.at_ hu5
   replace hv5 := hE6.at_ hv5
   replace HE := Lib.hid (HE.out.trans hE6)
   replace Hp := Lib.hid (Hp.out.ext hE6)
   replace Hr := Lib.hid (Hr.out.ext hE6)
   replace Hrc := Lib.hid (Hrc.out.ext hE6)
   replace Hx5 := Lib.hid (RN.up Hx5.out hE6)
   replace Hy5 := Lib.hid (RN.up Hy5.out hE6)
   replace Hu5 := Lib.hid (RN.up Hu5.out hE6)
   replace Hv5 := Lib.hid (RN.up Hv5.out hE6)
   clear hE6
   have hs8 := heap_alloc_new w6 (.cells #[.bool true, .slice none 0 0, .slice none 0 0] 27)
   have hA := Ext.alloc w6 (.cells #[.bool true, .slice none 0 0, .slice none 0 0] 27)
   replace hp3 := hA.at_ hp3
   replace hr3 := hA.at_ hr3
   replace hc4 := hA.at_ hc4
   replace hu5 := hA.at_ hu5
   replace hv5 := hA.at_ hv5
   replace HE := Lib.hid (HE.out.trans hA)
   replace Hp := Lib.hid (Hp.out.ext hA)
   replace Hr := Lib.hid (Hr.out.ext hA)
   replace Hrc := Lib.hid (Hrc.out.ext hA)
   replace Hx5 := Lib.hid (RN.up Hx5.out hA)
   replace Hy5 := Lib.hid (RN.up Hy5.out hA)
   replace Hu5 := Lib.hid (RN.up Hu5.out hA)
   replace Hv5 := Lib.hid (RN.up Hv5.out hA)
   generalize hV : w6.alloc (.cells #[.bool true, .slice none 0 0, .slice none 0 0] 27) = V6 at *
   obtain ⟨b8, hq⟩ : ∃ b, w6.heap.size = b := ⟨_, rfl⟩
   rw [hq] at hs8 ⊢
   clear hV hq hA
   have hneg := neg_c HC.out V6 Hp.out.pt
   rw [HT1.out] at hneg
   have Hneg := Lib.hid hneg
   clear hneg
   obtain ⟨y0, y1, y2, f0, f1, f2⟩ := pt_facts hp3
   go_upto_region 7 with (go_at_call 36; refine Hneg.out.mono ?_; rintro e w7 ⟨o, rfl, hv7, hE7⟩; obtain rfl : o = infV := hv7; unfold infV)
   clear y0 y1 y2 f0 f1 f2 Hneg
   replace hp3 := hE7.at_ hp3
   replace hr3 := hE7.at_ hr3
   replace hc4 := hE7.at_ hc4
   replace hu5 := hE7.at_ hu5
   replace hv5 := hE7.at_ hv5
   replace hs8 := hE7.at_ hs8
   replace HE := Lib.hid (HE.out.trans hE7)
   replace Hp := Lib.hid (Hp.out.ext hE7)
   replace Hr := Lib.hid (Hr.out.ext hE7)
   replace Hrc := Lib.hid (Hrc.out.ext hE7)
   replace Hx5 := Lib.hid (RN.up Hx5.out hE7)
   replace Hy5 := Lib.hid (RN.up Hy5.out hE7)
   replace Hu5 := Lib.hid (RN.up Hu5.out hE7)
   replace Hv5 := Lib.hid (RN.up Hv5.out hE7)
   clear hE7
   have ht9 := heap_alloc_new w7 (.cells #[.bool true, .slice none 0 0, .slice none 0 0] 27)
   have hA := Ext.alloc w7 (.cells #[.bool true, .slice none 0 0, .slice none 0 0] 27)
   replace hp3 := hA.at_ hp3
   replace hr3 := hA.at_ hr3
   replace hc4 := hA.at_ hc4
   replace hu5 := hA.at_ hu5
   replace hv5 := hA.at_ hv5
   replace hs8 := hA.at_ hs8
   replace HE := Lib.hid (HE.out.trans hA)
   replace Hp := Lib.hid (Hp.out.ext hA)
   replace Hr := Lib.hid (Hr.out.ext hA)
   replace Hrc := Lib.hid (Hrc.out.ext hA)
   replace Hx5 := Lib.hid (RN.up Hx5.out hA)
   replace Hy5 := Lib.hid (RN.up Hy5.out hA)
   replace Hu5 := Lib.hid (RN.up Hu5.out hA)
   replace Hv5 := Lib.hid (RN.up Hv5.out hA)
   generalize hV : w7.alloc (.cells #[.bool true, .slice none 0 0, .slice none 0 0] 27) = V7 at *
   obtain ⟨b9, hq⟩ : ∃ b, w7.heap.size = b := ⟨_, rfl⟩
   rw [hq] at ht9 ⊢
   clear hV hq hA
   refine Par.region_ext (by kernel_rfl) 16 [0, 0, 3, 0, 0, 31, 63, 127, 255, 255, 1023, 255, 255, 8191, 16383, 32767] [] (fun j f X => match j with
    | 0 => f 0 = .int .i64 c
    | 1 => f 1 = .agg #[.bool bi, s1, s2]
    | 2 => f 2 = .bool false
    | 3 => f 3 = .agg #[.slice Ap (digs 4294967296 C.M).length cp, .slice An (digs 4294967296 (val 18446744073709551616 C.nl)).length cn, .slice Ab (digs 4294967296 C.bb).length cb, .slice Ax (digs 4294967296 (val 18446744073709551616 C.xl)).length cx, .slice Ay (digs 4294967296 (val 18446744073709551616 C.yl)).length cy, .int .i64 (C.size : Int)]
    | 4 => f 4 = .agg #[.bool bi, .slice A1 (digs 4294967296 x).length c1, .slice B1 (digs 4294967296 y).length d1]
    | 5 => f 5 = .bool false
    | 6 => f 6 = .bool false
    | 7 => f 7 = .bool false
    | 8 => f 8 = .int .i64 c
    | 9 => f 9 = .agg #[.bool bj, t1, t2]
    | 10 => f 10 = .bool q'
    | 11 => f 11 = .agg #[.slice Ap (digs 4294967296 C.M).length cp, .slice An (digs 4294967296 (val 18446744073709551616 C.nl)).length cn, .slice Ab (digs 4294967296 C.bb).length cb, .slice Ax (digs 4294967296 (val 18446744073709551616 C.xl)).length cx, .slice Ay (digs 4294967296 (val 18446744073709551616 C.yl)).length cy, .int .i64 (C.size : Int)]
    | 12 => f 12 = .agg #[.bool bj, .slice A3 (digs 4294967296 u).length c3, .slice B3 (digs 4294967296 v).length d3]
    | 13 => f 13 = .bool q'
    | 14 => f 14 = .bool false
    | 15 => f 15 = .bool false
    | _ => True) (by kernel_rfl) [(49, 0), (50, 1), (51, 2), (52, 3), (53, 4), (54, 5), (55, 6), (56, 7), (57, 8), (58, 9), (59, 10), (60, 11), (61, 12), (62, 13), (63, 14), (64, 15)] (by kernel_rfl) ?_
   refine Par.v0 1 15 ?_
   refine lV0 2 14 hp3 infoP ?_
   refine Par.c0 3 13 (fun f => #[f 0, f 1]) (F' := 37) (fun f X hX hR => ?_) ?_
   · have e0 : f 0 = _ := hR.out 0 rfl
     have e1 : f 1 = _ := hR.out 1 rfl
     simp only [e0, e1]
     refine (onx_c HC.out X (Hp.out.ext hX).pt).mono ?_
     rw [Ho.out]
     rintro e w2 ⟨rfl, hB⟩
     exact ⟨_, rfl, hB, fun _ _ => rfl⟩
   refine lV0 4 12 hc4 infoRC ?_
   refine lV0 5 11 hu5 infoRP ?_
   refine Par.c0 6 10 (fun f => #[f 3, f 4]) (F' := 16) (fun f X hX hR => ?_) ?_
   · have e3 : f 3 = _ := hR.out 3 rfl
     have e4 : f 4 = _ := hR.out 4 rfl
     simp only [e3, e4]
     refine (refOn_any HC.out.fine _ _ _ _ _ _ _ _ (Hrc.out.ext hX) (RN.up Hx5.out hX) (RN.up Hy5.out hX)).mono ?_
     rw [Hq.out]
     rintro e w2 ⟨rfl, hB⟩
     exact ⟨_, rfl, hB, fun _ _ => rfl⟩
   refine Par.v2 7 9 2 5 ?_
   refine Par.v1 8 8 6 ?_
   refine Par.v1 9 7 7 ?_
   refine lV1 10 6 7 hr3 infoP ?_
   refine Par.c1 11 5 7 (fun f => #[f 8, f 9]) (F' := 37) (fun f X hX hR => ?_) ?_
   · have e8 : f 8 = _ := hR.out 8 rfl
     have e9 : f 9 = _ := hR.out 9 rfl
     simp only [e8, e9]
     refine (onx_c HC.out X (Hr.out.ext hX).pt).mono ?_
     rw [Ho'.out]
     rintro e w2 ⟨rfl, hB⟩
     exact ⟨_, rfl, hB, fun _ _ => rfl⟩
   refine lV1 12 4 7 hc4 infoRC ?_
   refine lV1 13 3 7 hv5 infoRP ?_
   refine Par.c1 14 2 7 (fun f => #[f 11, f 12]) (F' := 16) (fun f X hX hR => ?_) ?_
   · have e11 : f 11 = _ := hR.out 11 rfl
     have e12 : f 12 = _ := hR.out 12 rfl
     simp only [e11, e12]
     refine (refOn_any HC.out.fine _ _ _ _ _ _ _ _ (Hrc.out.ext hX) (RN.up Hu5.out hX) (RN.up Hv5.out hX)).mono ?_
     rw [Hq'.out]
     rintro e w2 ⟨rfl, hB⟩
     exact ⟨_, rfl, hB, fun _ _ => rfl⟩
   refine Par.S 15 1 [(49, 0), (50, 1), (51, 2), (52, 3), (53, 4), (54, 5), (55, 6), (56, 7), (57, 8), (58, 9), (59, 10), (60, 11), (61, 12), (62, 13)] (fun f X hX hR K hK => ?_) ?_
   · have e7 : f 7 = _ := hR.out 7 rfl
     have e10 : f 10 = _ := hR.out 10 rfl
     have e13 : f 13 = _ := hR.out 13 rfl
     have n1 := hne'
     simp only [yA, yB, yC, yD, yE, e7, e10, e13]
     refine ⟨Par.want (by kernel_rfl) ?_⟩
     go_simp
     exact Par.k hK (s := by simp only [yA, yB, yC, yD, yE, e7, e10, e13])
   refine Par.v2 16 0 7 14 ?_
   refine Par.AllOps.fin ⟨fun f X hX hR hal hap => ?_⟩
   have e15 : f 15 = _ := hR 15 (by decide)
   simp only [yA, yB, yD, yE, e15]
   clear hR hal hap e15
   refine Par.Chain.done ?_
   replace hp3 := hX.at_ hp3
   replace hr3 := hX.at_ hr3
   replace hc4 := hX.at_ hc4
   replace hu5 := hX.at_ hu5
   replace hv5 := hX.at_ hv5
   replace hs8 := hX.at_ hs8
   replace ht9 := hX.at_ ht9
   replace HE := Lib.hid (HE.out.trans hX)
   replace Hp := Lib.hid (Hp.out.ext hX)
   replace Hr := Lib.hid (Hr.out.ext hX)
   replace Hrc := Lib.hid (Hrc.out.ext hX)
   replace Hx5 := Lib.hid (RN.up Hx5.out hX)
   replace Hy5 := Lib.hid (RN.up Hy5.out hX)
   replace Hu5 := Lib.hid (RN.up Hu5.out hX)
   replace Hv5 := Lib.hid (RN.up Hv5.out hX)
   clear hX
   obtain ⟨z0, z1, z2, z3, z4, z5⟩ := six_facts hc4
   obtain ⟨y0, y1, y2, f0, f1, f2⟩ := pt_facts hu5
   go_upto_region 10 with (go_at_call 16; refine (refOn_any HC.out.fine _ _ _ _ _ _ _ _ Hrc.out Hx5.out Hy5.out).mono ?_; rw [Hq.out]; rintro e w9 ⟨rfl, hE⟩)
   clear z0 z1 z2 z3 z4 z5 y0 y1 y2 f0 f1 f2
   replace hp3 := hE.at_ hp3
   replace hr3 := hE.at_ hr3
   replace hc4 := hE.at_ hc4
   replace hu5 := hE.at_ hu5
   replace hv5 := hE.at_ hv5
   replace hs8 := hE.at_ hs8
   replace ht9 := hE.at_ ht9
   replace HE := Lib.hid (HE.out.trans hE)
   replace Hp := Lib.hid (Hp.out.ext hE)
   replace Hr := Lib.hid (Hr.out.ext hE)
   replace Hrc := Lib.hid (Hrc.out.ext hE)
   replace Hx5 := Lib.hid (RN.up Hx5.out hE)
   replace Hy5 := Lib.hid (RN.up Hy5.out hE)
   replace Hu5 := Lib.hid (RN.up Hu5.out hE)
   replace Hv5 := Lib.hid (RN.up Hv5.out hE)
   clear hE
   obtain ⟨y0, y1, y2, f0, f1, f2⟩ := pt_facts hs8
   obtain ⟨y0', y1', y2', f0', f1', f2'⟩ := pt_facts ht9
   go_wp2
   go_ret
   exact ⟨rfl, HE.out⟩
 · cases q'
   · have HS1 := Lib.hid (addC_off2 Ho'.out : (addC C bi (val 18446744073709551616 a) (val 18446744073709551616 b) bj (val 18446744073709551616 a') (val 18446744073709551616 b')) = none)
     obtain ⟨T, hT1, hT2⟩ := neg_agree Ho.out Hx.out Hy.out
     have HT1 := Lib.hid hT1
     have HT2 := Lib.hid hT2
     clear hT1 hT2
     have hpt := Hp.out.pt
     have hrt := Hr.out.pt
     have hadd := add_c HC.out _ hpt hrt
     rw [HS1.out] at hadd
     have Hadd := Lib.hid hadd
     clear hpt hrt hadd
     obtain ⟨y0, y1, y2, f0, f1, f2⟩ := pt_facts hp3
     obtain ⟨y0', y1', y2', f0', f1', f2'⟩ := pt_facts hr3
     go_upto_region 6 with (go_at_call 21; refine Hadd.out.mono ?_; rintro e w6 ⟨o, rfl, hv6, hE6⟩; obtain rfl : o = infV := hv6; unfold infV)
     clear y0 y1 y2 f0 f1 f2 y0' y1' y2' f0' f1' f2' Hadd
     replace hp3 := hE6.at_ hp3
     replace hr3 := hE6.at_ hr3
     replace hc4 := hE6.at_ hc4
     replace hu5 := hE6.at_ hu5
     replace hv5 := hE6.at_ hv5
     replace HE := Lib.hid (HE.out.trans hE6)
     replace Hp := Lib.hid (Hp.out.ext hE6)
     replace Hr := Lib.hid (Hr.out.ext hE6)
     replace Hrc := Lib.hid (Hrc.out.ext hE6)
     replace Hx5 := Lib.hid (RN.up Hx5.out hE6)
     replace Hy5 := Lib.hid (RN.up Hy5.out hE6)
     replace Hu5 := Lib.hid (RN.up Hu5.out hE6)
     replace Hv5 := Lib.hid (RN.up Hv5.out hE6)
     clear hE6
     have hs8 := heap_alloc_new w6 (.cells #[.bool true, .slice none 0 0, .slice none 0 0] 27)
     have hA := Ext.alloc w6 (.cells #[.bool true, .slice none 0 0, .slice none 0 0] 27)
     replace hp3 := hA.at_ hp3
     replace hr3 := hA.at_ hr3
     replace hc4 := hA.at_ hc4
     replace hu5 := hA.at_ hu5
     replace hv5 := hA.at_ hv5
     replace HE := Lib.hid (HE.out.trans hA)
     replace Hp := Lib.hid (Hp.out.ext hA)
     replace Hr := Lib.hid (Hr.out.ext hA)
     replace Hrc := Lib.hid (Hrc.out.ext hA)
     replace Hx5 := Lib.hid (RN.up Hx5.out hA)
     replace Hy5 := Lib.hid (RN.up Hy5.out hA)
     replace Hu5 := Lib.hid (RN.up Hu5.out hA)
     replace Hv5 := Lib.hid (RN.up Hv5.out hA)
     generalize hV : w6.alloc (.cells #[.bool true, .slice none 0 0, .slice none 0 0] 27) = V6 at *
     obtain ⟨b8, hq⟩ : ∃ b, w6.heap.size = b := ⟨_, rfl⟩
     rw [hq] at hs8 ⊢
     clear hV hq hA
     have hneg := neg_c HC.out V6 Hp.out.pt
     rw [HT1.out] at hneg
     have Hneg := Lib.hid hneg
     clear hneg
     obtain ⟨y0, y1, y2, f0, f1, f2⟩ := pt_facts hp3
     go_upto_region 7 with (go_at_call 36; refine Hneg.out.mono ?_; rintro e w7 ⟨o, rfl, hv7, hE7⟩; obtain ⟨A9, B9, c9, d9, rfl, hx9, hy9⟩ := hv7.pn; rw [show (some T).join = T from rfl] at hx9 hy9)
     clear y0 y1 y2 f0 f1 f2 hv7 Hneg
     have Ht := Lib.hid (show APn w7 (.agg #[.bool T.isNone, .slice A9 (digs 18446744073709551616 (T.elim 0 (·.1))).length c9, .slice B9 (digs 18446744073709551616 (T.elim 0 (·.2))).length d9]) T.isNone (digs 18446744073709551616 (T.elim 0 (·.1))) (digs 18446744073709551616 (T.elim 0 (·.2))) from ⟨A9, B9, c9, d9, rfl, hx9, hy9⟩)
     clear hx9 hy9
     replace hp3 := hE7.at_ hp3
     replace hr3 := hE7.at_ hr3
     replace hc4 := hE7.at_ hc4
     replace hu5 := hE7.at_ hu5
     replace hv5 := hE7.at_ hv5
     replace hs8 := hE7.at_ hs8
     replace HE := Lib.hid (HE.out.trans hE7)
     replace Hp := Lib.hid (Hp.out.ext hE7)
     replace Hr := Lib.hid (Hr.out.ext hE7)
     replace Hrc := Lib.hid (Hrc.out.ext hE7)
     replace Hx5 := Lib.hid (RN.up Hx5.out hE7)
     replace Hy5 := Lib.hid (RN.up Hy5.out hE7)
     replace Hu5 := Lib.hid (RN.up Hu5.out hE7)
     replace Hv5 := Lib.hid (RN.up Hv5.out hE7)
     clear hE7
     generalize Value.slice A9 (digs 18446744073709551616 (T.elim 0 (·.1))).length c9 = s91 at *
     generalize Value.slice B9 (digs 18446744073709551616 (T.elim 0 (·.2))).length d9 = s92 at *
     have ht9 := heap_alloc_new w7 (.cells #[.bool T.isNone, s91, s92] 27)
     have hA := Ext.alloc w7 (.cells #[.bool T.isNone, s91, s92] 27)
     replace hp3 := hA.at_ hp3
     replace hr3 := hA.at_ hr3
     replace hc4 := hA.at_ hc4
     replace hu5 := hA.at_ hu5
     replace hv5 := hA.at_ hv5
     replace hs8 := hA.at_ hs8
     replace HE := Lib.hid (HE.out.trans hA)
     replace Hp := Lib.hid (Hp.out.ext hA)
     replace Hr := Lib.hid (Hr.out.ext hA)
     replace Hrc := Lib.hid (Hrc.out.ext hA)
     replace Hx5 := Lib.hid (RN.up Hx5.out hA)
     replace Hy5 := Lib.hid (RN.up Hy5.out hA)
     replace Hu5 := Lib.hid (RN.up Hu5.out hA)
     replace Hv5 := Lib.hid (RN.up Hv5.out hA)
     replace Ht := Lib.hid (Ht.out.ext hA)
     generalize hV : w7.alloc (.cells #[.bool T.isNone, s91, s92] 27) = V7 at *
     obtain ⟨b9, hq⟩ : ∃ b, w7.heap.size = b := ⟨_, rfl⟩
     rw [hq] at ht9 ⊢
     clear hV hq hA
     refine Par.region_ext (by kernel_rfl) 16 [0, 0, 3, 0, 0, 31, 63, 127, 255, 255, 1023, 255, 255, 8191, 16383, 32767] [] (fun j f X => match j with
      | 0 => f 0 = .int .i64 c
      | 1 => f 1 = .agg #[.bool bi, s1, s2]
      | 2 => f 2 = .bool true
      | 3 => f 3 = .agg #[.slice Ap (digs 4294967296 C.M).length cp, .slice An (digs 4294967296 (val 18446744073709551616 C.nl)).length cn, .slice Ab (digs 4294967296 C.bb).length cb, .slice Ax (digs 4294967296 (val 18446744073709551616 C.xl)).length cx, .slice Ay (digs 4294967296 (val 18446744073709551616 C.yl)).length cy, .int .i64 (C.size : Int)]
      | 4 => f 4 = .agg #[.bool bi, .slice A1 (digs 4294967296 x).length c1, .slice B1 (digs 4294967296 y).length d1]
      | 5 => f 5 = .bool true
      | 6 => f 6 = .bool false
      | 7 => f 7 = .bool false
      | 8 => f 8 = .int .i64 c
      | 9 => f 9 = .agg #[.bool bj, t1, t2]
      | 10 => f 10 = .bool false
      | 11 => f 11 = .agg #[.slice Ap (digs 4294967296 C.M).length cp, .slice An (digs 4294967296 (val 18446744073709551616 C.nl)).length cn, .slice Ab (digs 4294967296 C.bb).length cb, .slice Ax (digs 4294967296 (val 18446744073709551616 C.xl)).length cx, .slice Ay (digs 4294967296 (val 18446744073709551616 C.yl)).length cy, .int .i64 (C.size : Int)]
      | 12 => f 12 = .agg #[.bool bj, .slice A3 (digs 4294967296 u).length c3, .slice B3 (digs 4294967296 v).length d3]
      | 13 => f 13 = .bool false
      | 14 => f 14 = .bool false
      | 15 => f 15 = .bool false
      | _ => True) (by kernel_rfl) [(49, 0), (50, 1), (51, 2), (52, 3), (53, 4), (54, 5), (55, 6), (56, 7), (57, 8), (58, 9), (59, 10), (60, 11), (61, 12), (62, 13), (63, 14), (64, 15)] (by kernel_rfl) ?_
     refine Par.v0 1 15 ?_
     refine lV0 2 14 hp3 infoP ?_
     refine Par.c0 3 13 (fun f => #[f 0, f 1]) (F' := 37) (fun f X hX hR => ?_) ?_
     · have e0 : f 0 = _ := hR.out 0 rfl
       have e1 : f 1 = _ := hR.out 1 rfl
       simp only [e0, e1]
       refine (onx_c HC.out X (Hp.out.ext hX).pt).mono ?_
       rw [Ho.out]
       rintro e w2 ⟨rfl, hB⟩
       exact ⟨_, rfl, hB, fun _ _ => rfl⟩
     refine lV0 4 12 hc4 infoRC ?_
     refine lV0 5 11 hu5 infoRP ?_
     refine Par.c0 6 10 (fun f => #[f 3, f 4]) (F' := 16) (fun f X hX hR => ?_) ?_
     · have e3 : f 3 = _ := hR.out 3 rfl
       have e4 : f 4 = _ := hR.out 4 rfl
       simp only [e3, e4]
       refine (refOn_any HC.out.fine _ _ _ _ _ _ _ _ (Hrc.out.ext hX) (RN.up Hx5.out hX) (RN.up Hy5.out hX)).mono ?_
       rw [Hq.out]
       rintro e w2 ⟨rfl, hB⟩
       exact ⟨_, rfl, hB, fun _ _ => rfl⟩
     refine Par.v2 7 9 2 5 ?_
     refine Par.v1 8 8 6 ?_
     refine Par.v1 9 7 7 ?_
     refine lV1 10 6 7 hr3 infoP ?_
     refine Par.c1 11 5 7 (fun f => #[f 8, f 9]) (F' := 37) (fun f X hX hR => ?_) ?_
     · have e8 : f 8 = _ := hR.out 8 rfl
       have e9 : f 9 = _ := hR.out 9 rfl
       simp only [e8, e9]
       refine (onx_c HC.out X (Hr.out.ext hX).pt).mono ?_
       rw [Ho'.out]
       rintro e w2 ⟨rfl, hB⟩
       exact ⟨_, rfl, hB, fun _ _ => rfl⟩
     refine lV1 12 4 7 hc4 infoRC ?_
     refine lV1 13 3 7 hv5 infoRP ?_
     refine Par.c1 14 2 7 (fun f => #[f 11, f 12]) (F' := 16) (fun f X hX hR => ?_) ?_
     · have e11 : f 11 = _ := hR.out 11 rfl
       have e12 : f 12 = _ := hR.out 12 rfl
       simp only [e11, e12]
       refine (refOn_any HC.out.fine _ _ _ _ _ _ _ _ (Hrc.out.ext hX) (RN.up Hu5.out hX) (RN.up Hv5.out hX)).mono ?_
       rw [Hq'.out]
       rintro e w2 ⟨rfl, hB⟩
       exact ⟨_, rfl, hB, fun _ _ => rfl⟩
     refine Par.S 15 1 [(49, 0), (50, 1), (51, 2), (52, 3), (53, 4), (54, 5), (55, 6), (56, 7), (57, 8), (58, 9), (59, 10), (60, 11), (61, 12), (62, 13)] (fun f X hX hR K hK => ?_) ?_
     · have e7 : f 7 = _ := hR.out 7 rfl
       have e10 : f 10 = _ := hR.out 10 rfl
       have e13 : f 13 = _ := hR.out 13 rfl
       simp only [yA, yB, yC, yD, yE, e7, e10, e13]
       refine ⟨Par.want (by kernel_rfl) ?_⟩
       go_simp
       exact Par.k hK (s := by simp only [yA, yB, yC, yD, yE, e7, e10, e13])
     refine Par.v2 16 0 7 14 ?_
     refine Par.AllOps.fin ⟨fun f X hX hR hal hap => ?_⟩
     have e15 : f 15 = _ := hR 15 (by decide)
     simp only [yA, yB, yD, yE, e15]
     clear hR hal hap e15
     refine Par.Chain.done ?_
     replace hp3 := hX.at_ hp3
     replace hr3 := hX.at_ hr3
     replace hc4 := hX.at_ hc4
     replace hu5 := hX.at_ hu5
     replace hv5 := hX.at_ hv5
     replace hs8 := hX.at_ hs8
     replace ht9 := hX.at_ ht9
     replace HE := Lib.hid (HE.out.trans hX)
     replace Hp := Lib.hid (Hp.out.ext hX)
     replace Hr := Lib.hid (Hr.out.ext hX)
     replace Hrc := Lib.hid (Hrc.out.ext hX)
     replace Hx5 := Lib.hid (RN.up Hx5.out hX)
     replace Hy5 := Lib.hid (RN.up Hy5.out hX)
     replace Hu5 := Lib.hid (RN.up Hu5.out hX)
     replace Hv5 := Lib.hid (RN.up Hv5.out hX)
     replace Ht := Lib.hid (Ht.out.ext hX)
     clear hX
     obtain ⟨z0, z1, z2, z3, z4, z5⟩ := six_facts hc4
     obtain ⟨y0, y1, y2, f0, f1, f2⟩ := pt_facts hu5
     go_upto_region 11 with (go_at_call 16; refine (refOn_any HC.out.fine _ _ _ _ _ _ _ _ Hrc.out Hx5.out Hy5.out).mono ?_; rw [Hq.out]; rintro e w9 ⟨rfl, hE⟩)
     clear z0 z1 z2 z3 z4 z5 y0 y1 y2 f0 f1 f2
     replace hp3 := hE.at_ hp3
     replace hr3 := hE.at_ hr3
     replace hc4 := hE.at_ hc4
     replace hu5 := hE.at_ hu5
     replace hv5 := hE.at_ hv5
     replace hs8 := hE.at_ hs8
     replace ht9 := hE.at_ ht9
     replace HE := Lib.hid (HE.out.trans hE)
     replace Hp := Lib.hid (Hp.out.ext hE)
     replace Hr := Lib.hid (Hr.out.ext hE)
     replace Hrc := Lib.hid (Hrc.out.ext hE)
     replace Hx5 := Lib.hid (RN.up Hx5.out hE)
     replace Hy5 := Lib.hid (RN.up Hy5.out hE)
     replace Hu5 := Lib.hid (RN.up Hu5.out hE)
     replace Hv5 := Lib.hid (RN.up Hv5.out hE)
     replace Ht := Lib.hid (Ht.out.ext hE)
     clear hE
     have Hlt := Lib.hid (show bi = false → y < C.M from fun h => (onB_lt (show onB C.M C.bb x y = true from by have h1 := Hq.out; rw [h] at h1; exact h1)).2)
     refine Par.region_ext (by kernel_rfl) 10 [0, 1, 3, 7, 7, 7, 55, 127, 255, 511] [] (fun j f X => match j with
      | 0 => f 0 = .bool true
      | 1 => f 1 = .bool false
      | 2 => f 2 = .bool false
      | 3 => f 3 = .agg #[.bool T.isNone, s91, s92]
      | 4 => f 4 = .agg #[.slice Ap (digs 4294967296 C.M).length cp, .slice An (digs 4294967296 (val 18446744073709551616 C.nl)).length cn, .slice Ab (digs 4294967296 C.bb).length cb, .slice Ax (digs 4294967296 (val 18446744073709551616 C.xl)).length cx, .slice Ay (digs 4294967296 (val 18446744073709551616 C.yl)).length cy, .int .i64 (C.size : Int)]
      | 5 => f 5 = .agg #[.bool bi, .slice A1 (digs 4294967296 x).length c1, .slice B1 (digs 4294967296 y).length d1]
      | 6 => ∃ o, f 6 = o ∧ RPv X o T.isNone (T.elim 0 (·.1)) (T.elim 0 (·.2))
      | 7 => f 7 = .bool true
      | 8 => f 8 = .bool false
      | 9 => f 9 = .bool false
      | _ => True) (by kernel_rfl) [(86, 0), (87, 1), (88, 2), (89, 3), (90, 4), (91, 5), (92, 6), (93, 7), (94, 8), (95, 9)] (by kernel_rfl) ?_
     refine Par.v0 1 9 ?_
     refine Par.v1 2 8 0 ?_
     refine Par.v1 3 7 1 ?_
     refine lV1 4 6 2 ht9 infoP ?_
     refine lV1 5 5 2 hc4 infoRC ?_
     refine lV1 6 4 2 hu5 infoRP ?_
     refine Par.c1 7 3 2 (fun f => #[f 4, f 5]) (F' := 38) (fun f X hX hR => ?_) ?_
     · have e4 : f 4 = _ := hR.out 4 rfl
       have e5 : f 5 = _ := hR.out 5 rfl
       simp only [e4, e5]
       refine (rneg_n HC.out.fine X (Hrc.out.ext hX) (RN.up Hx5.out hX) (RN.up Hy5.out hX) Hlt.out).mono ?_
       rw [HT2.out]
       rintro e w2 ⟨o, rfl, h, hB⟩
       exact ⟨o, rfl, hB, fun Y hY => ⟨o, rfl, RPv.ext h hY⟩⟩
     refine Par.c1 8 2 2 (fun f => #[f 3, f 6]) (F' := 17) (fun f X hX hR => ?_) ?_
     · have e3 : f 3 = _ := hR.out 3 rfl
       obtain ⟨o6, (e6 : f 6 = _), h6⟩ := hR.out 6 rfl
       simp only [e3, e6]
       refine (ris_n X (Ht.out.ext hX) h6).mono ?_
       rintro e w2 ⟨he, hB⟩
       simp only [beq_self_eq_true, decide_true, Bool.and_self] at he
       subst he
       exact ⟨_, rfl, hB, fun _ _ => rfl⟩
     refine Par.v2 9 1 2 7 ?_
     refine Par.v2 10 0 2 8 ?_
     refine Par.AllOps.fin ⟨fun f X hX hR hal hap => ?_⟩
     obtain ⟨o6, (e6 : f 6 = _), h6⟩ := hR 6 (by decide)
     have e9 : f 9 = _ := hR 9 (by decide)
     simp only [yA, yB, yD, yE, e6, e9]
     clear hR hal hap e6 e9
     refine Par.Chain.done ?_
     replace hp3 := hX.at_ hp3
     replace hr3 := hX.at_ hr3
     replace hc4 := hX.at_ hc4
     replace hu5 := hX.at_ hu5
     replace hv5 := hX.at_ hv5
     replace hs8 := hX.at_ hs8
     replace ht9 := hX.at_ ht9
     replace HE := Lib.hid (HE.out.trans hX)
     replace Hp := Lib.hid (Hp.out.ext hX)
     replace Hr := Lib.hid (Hr.out.ext hX)
     replace Hrc := Lib.hid (Hrc.out.ext hX)
     replace Hx5 := Lib.hid (RN.up Hx5.out hX)
     replace Hy5 := Lib.hid (RN.up Hy5.out hX)
     replace Hu5 := Lib.hid (RN.up Hu5.out hX)
     replace Hv5 := Lib.hid (RN.up Hv5.out hX)
     replace Ht := Lib.hid (Ht.out.ext hX)
     clear hX
     obtain ⟨z0, z1, z2, z3, z4, z5⟩ := six_facts hc4
     obtain ⟨y0, y1, y2, f0, f1, f2⟩ := pt_facts hv5
     go_upto_region 14 with (go_at_call 16; refine (refOn_any HC.out.fine _ _ _ _ _ _ _ _ Hrc.out Hu5.out Hv5.out).mono ?_; rw [Hq'.out]; rintro e w10 ⟨rfl, hE⟩)
     clear z0 z1 z2 z3 z4 z5 y0 y1 y2 f0 f1 f2
     replace hp3 := hE.at_ hp3
     replace hr3 := hE.at_ hr3
     replace hc4 := hE.at_ hc4
     replace hu5 := hE.at_ hu5
     replace hv5 := hE.at_ hv5
     replace hs8 := hE.at_ hs8
     replace ht9 := hE.at_ ht9
     replace HE := Lib.hid (HE.out.trans hE)
     replace Hp := Lib.hid (Hp.out.ext hE)
     replace Hr := Lib.hid (Hr.out.ext hE)
     replace Hrc := Lib.hid (Hrc.out.ext hE)
     replace Hx5 := Lib.hid (RN.up Hx5.out hE)
     replace Hy5 := Lib.hid (RN.up Hy5.out hE)
     replace Hu5 := Lib.hid (RN.up Hu5.out hE)
     replace Hv5 := Lib.hid (RN.up Hv5.out hE)
     replace Ht := Lib.hid (Ht.out.ext hE)
     clear hE
     obtain ⟨y0, y1, y2, f0, f1, f2⟩ := pt_facts hs8
     go_wp2
     go_ret
     exact ⟨rfl, HE.out⟩
   · obtain ⟨S, hS1, hS2⟩ := add_agree HC.out Ho.out Ho'.out Hx.out Hy.out Hu.out Hv.out
     have HS1 := Lib.hid hS1
     have HS2 := Lib.hid hS2
     clear hS1 hS2
     obtain ⟨T, hT1, hT2⟩ := neg_agree Ho.out Hx.out Hy.out
     have HT1 := Lib.hid hT1
     have HT2 := Lib.hid hT2
     clear hT1 hT2
     have hpt := Hp.out.pt
     have hrt := Hr.out.pt
     have hadd := add_c HC.out _ hpt hrt
     rw [HS1.out] at hadd
     have Hadd := Lib.hid hadd
     clear hpt hrt hadd
     obtain ⟨y0, y1, y2, f0, f1, f2⟩ := pt_facts hp3
     obtain ⟨y0', y1', y2', f0', f1', f2'⟩ := pt_facts hr3
     go_upto_region 6 with (go_at_call 21; refine Hadd.out.mono ?_; rintro e w6 ⟨o, rfl, hv6, hE6⟩; obtain ⟨A8, B8, c8, d8, rfl, hx8, hy8⟩ := hv6.pn; rw [show (some S).join = S from rfl] at hx8 hy8)
     clear y0 y1 y2 f0 f1 f2 y0' y1' y2' f0' f1' f2' hv6 Hadd
     have Hs := Lib.hid (show APn w6 (.agg #[.bool S.isNone, .slice A8 (digs 18446744073709551616 (S.elim 0 (·.1))).length c8, .slice B8 (digs 18446744073709551616 (S.elim 0 (·.2))).length d8]) S.isNone (digs 18446744073709551616 (S.elim 0 (·.1))) (digs 18446744073709551616 (S.elim 0 (·.2))) from ⟨A8, B8, c8, d8, rfl, hx8, hy8⟩)
     clear hx8 hy8
     replace hp3 := hE6.at_ hp3
     replace hr3 := hE6.at_ hr3
     replace hc4 := hE6.at_ hc4
     replace hu5 := hE6.at_ hu5
     replace hv5 := hE6.at_ hv5
     replace HE := Lib.hid (HE.out.trans hE6)
     replace Hp := Lib.hid (Hp.out.ext hE6)
     replace Hr := Lib.hid (Hr.out.ext hE6)
     replace Hrc := Lib.hid (Hrc.out.ext hE6)
     replace Hx5 := Lib.hid (RN.up Hx5.out hE6)
     replace Hy5 := Lib.hid (RN.up Hy5.out hE6)
     replace Hu5 := Lib.hid (RN.up Hu5.out hE6)
     replace Hv5 := Lib.hid (RN.up Hv5.out hE6)
     clear hE6
     generalize Value.slice A8 (digs 18446744073709551616 (S.elim 0 (·.1))).length c8 = s81 at *
     generalize Value.slice B8 (digs 18446744073709551616 (S.elim 0 (·.2))).length d8 = s82 at *
     have hs8 := heap_alloc_new w6 (.cells #[.bool S.isNone, s81, s82] 27)
     have hA := Ext.alloc w6 (.cells #[.bool S.isNone, s81, s82] 27)
     replace hp3 := hA.at_ hp3
     replace hr3 := hA.at_ hr3
     replace hc4 := hA.at_ hc4
     replace hu5 := hA.at_ hu5
     replace hv5 := hA.at_ hv5
     replace HE := Lib.hid (HE.out.trans hA)
     replace Hp := Lib.hid (Hp.out.ext hA)
     replace Hr := Lib.hid (Hr.out.ext hA)
     replace Hrc := Lib.hid (Hrc.out.ext hA)
     replace Hx5 := Lib.hid (RN.up Hx5.out hA)
     replace Hy5 := Lib.hid (RN.up Hy5.out hA)
     replace Hu5 := Lib.hid (RN.up Hu5.out hA)
     replace Hv5 := Lib.hid (RN.up Hv5.out hA)
     replace Hs := Lib.hid (Hs.out.ext hA)
     generalize hV : w6.alloc (.cells #[.bool S.isNone, s81, s82] 27) = V6 at *
     obtain ⟨b8, hq⟩ : ∃ b, w6.heap.size = b := ⟨_, rfl⟩
     rw [hq] at hs8 ⊢
     clear hV hq hA
     have hneg := neg_c HC.out V6 Hp.out.pt
     rw [HT1.out] at hneg
     have Hneg := Lib.hid hneg
     clear hneg
     obtain ⟨y0, y1, y2, f0, f1, f2⟩ := pt_facts hp3
     go_upto_region 7 with (go_at_call 36; refine Hneg.out.mono ?_; rintro e w7 ⟨o, rfl, hv7, hE7⟩; obtain ⟨A9, B9, c9, d9, rfl, hx9, hy9⟩ := hv7.pn; rw [show (some T).join = T from rfl] at hx9 hy9)
     clear y0 y1 y2 f0 f1 f2 hv7 Hneg
     have Ht := Lib.hid (show APn w7 (.agg #[.bool T.isNone, .slice A9 (digs 18446744073709551616 (T.elim 0 (·.1))).length c9, .slice B9 (digs 18446744073709551616 (T.elim 0 (·.2))).length d9]) T.isNone (digs 18446744073709551616 (T.elim 0 (·.1))) (digs 18446744073709551616 (T.elim 0 (·.2))) from ⟨A9, B9, c9, d9, rfl, hx9, hy9⟩)
     clear hx9 hy9
     replace hp3 := hE7.at_ hp3
     replace hr3 := hE7.at_ hr3
     replace hc4 := hE7.at_ hc4
     replace hu5 := hE7.at_ hu5
     replace hv5 := hE7.at_ hv5
     replace hs8 := hE7.at_ hs8
     replace HE := Lib.hid (HE.out.trans hE7)
     replace Hp := Lib.hid (Hp.out.ext hE7)
     replace Hr := Lib.hid (Hr.out.ext hE7)
     replace Hrc := Lib.hid (Hrc.out.ext hE7)
     replace Hx5 := Lib.hid (RN.up Hx5.out hE7)
     replace Hy5 := Lib.hid (RN.up Hy5.out hE7)
     replace Hu5 := Lib.hid (RN.up Hu5.out hE7)
     replace Hv5 := Lib.hid (RN.up Hv5.out hE7)
     replace Hs := Lib.hid (Hs.out.ext hE7)
     clear hE7
     generalize Value.slice A9 (digs 18446744073709551616 (T.elim 0 (·.1))).length c9 = s91 at *
     generalize Value.slice B9 (digs 18446744073709551616 (T.elim 0 (·.2))).length d9 = s92 at *
     have ht9 := heap_alloc_new w7 (.cells #[.bool T.isNone, s91, s92] 27)
     have hA := Ext.alloc w7 (.cells #[.bool T.isNone, s91, s92] 27)
     replace hp3 := hA.at_ hp3
     replace hr3 := hA.at_ hr3
     replace hc4 := hA.at_ hc4
     replace hu5 := hA.at_ hu5
     replace hv5 := hA.at_ hv5
     replace hs8 := hA.at_ hs8
     replace HE := Lib.hid (HE.out.trans hA)
     replace Hp := Lib.hid (Hp.out.ext hA)
     replace Hr := Lib.hid (Hr.out.ext hA)
     replace Hrc := Lib.hid (Hrc.out.ext hA)
     replace Hx5 := Lib.hid (RN.up Hx5.out hA)
     replace Hy5 := Lib.hid (RN.up Hy5.out hA)
     replace Hu5 := Lib.hid (RN.up Hu5.out hA)
     replace Hv5 := Lib.hid (RN.up Hv5.out hA)
     replace Hs := Lib.hid (Hs.out.ext hA)
     replace Ht := Lib.hid (Ht.out.ext hA)
     generalize hV : w7.alloc (.cells #[.bool T.isNone, s91, s92] 27) = V7 at *
     obtain ⟨b9, hq⟩ : ∃ b, w7.heap.size = b := ⟨_, rfl⟩
     rw [hq] at ht9 ⊢
     clear hV hq hA
     refine Par.region_ext (by kernel_rfl) 16 [0, 0, 3, 0, 0, 31, 63, 127, 255, 255, 1023, 255, 255, 8191, 16383, 32767] [] (fun j f X => match j with
      | 0 => f 0 = .int .i64 c
      | 1 => f 1 = .agg #[.bool bi, s1, s2]
      | 2 => f 2 = .bool true
      | 3 => f 3 = .agg #[.slice Ap (digs 4294967296 C.M).length cp, .slice An (digs 4294967296 (val 18446744073709551616 C.nl)).length cn, .slice Ab (digs 4294967296 C.bb).length cb, .slice Ax (digs 4294967296 (val 18446744073709551616 C.xl)).length cx, .slice Ay (digs 4294967296 (val 18446744073709551616 C.yl)).length cy, .int .i64 (C.size : Int)]
      | 4 => f 4 = .agg #[.bool bi, .slice A1 (digs 4294967296 x).length c1, .slice B1 (digs 4294967296 y).length d1]
      | 5 => f 5 = .bool true
      | 6 => f 6 = .bool false
      | 7 => f 7 = .bool false
      | 8 => f 8 = .int .i64 c
      | 9 => f 9 = .agg #[.bool bj, t1, t2]
      | 10 => f 10 = .bool true
      | 11 => f 11 = .agg #[.slice Ap (digs 4294967296 C.M).length cp, .slice An (digs 4294967296 (val 18446744073709551616 C.nl)).length cn, .slice Ab (digs 4294967296 C.bb).length cb, .slice Ax (digs 4294967296 (val 18446744073709551616 C.xl)).length cx, .slice Ay (digs 4294967296 (val 18446744073709551616 C.yl)).length cy, .int .i64 (C.size : Int)]
      | 12 => f 12 = .agg #[.bool bj, .slice A3 (digs 4294967296 u).length c3, .slice B3 (digs 4294967296 v).length d3]
      | 13 => f 13 = .bool true
      | 14 => f 14 = .bool false
      | 15 => f 15 = .bool false
      | _ => True) (by kernel_rfl) [(49, 0), (50, 1), (51, 2), (52, 3), (53, 4), (54, 5), (55, 6), (56, 7), (57, 8), (58, 9), (59, 10), (60, 11), (61, 12), (62, 13), (63, 14), (64, 15)] (by kernel_rfl) ?_
     refine Par.v0 1 15 ?_
     refine lV0 2 14 hp3 infoP ?_
     refine Par.c0 3 13 (fun f => #[f 0, f 1]) (F' := 37) (fun f X hX hR => ?_) ?_
     · have e0 : f 0 = _ := hR.out 0 rfl
       have e1 : f 1 = _ := hR.out 1 rfl
       simp only [e0, e1]
       refine (onx_c HC.out X (Hp.out.ext hX).pt).mono ?_
       rw [Ho.out]
       rintro e w2 ⟨rfl, hB⟩
       exact ⟨_, rfl, hB, fun _ _ => rfl⟩
     refine lV0 4 12 hc4 infoRC ?_
     refine lV0 5 11 hu5 infoRP ?_
     refine Par.c0 6 10 (fun f => #[f 3, f 4]) (F' := 16) (fun f X hX hR => ?_) ?_
     · have e3 : f 3 = _ := hR.out 3 rfl
       have e4 : f 4 = _ := hR.out 4 rfl
       simp only [e3, e4]
       refine (refOn_any HC.out.fine _ _ _ _ _ _ _ _ (Hrc.out.ext hX) (RN.up Hx5.out hX) (RN.up Hy5.out hX)).mono ?_
       rw [Hq.out]
       rintro e w2 ⟨rfl, hB⟩
       exact ⟨_, rfl, hB, fun _ _ => rfl⟩
     refine Par.v2 7 9 2 5 ?_
     refine Par.v1 8 8 6 ?_
     refine Par.v1 9 7 7 ?_
     refine lV1 10 6 7 hr3 infoP ?_
     refine Par.c1 11 5 7 (fun f => #[f 8, f 9]) (F' := 37) (fun f X hX hR => ?_) ?_
     · have e8 : f 8 = _ := hR.out 8 rfl
       have e9 : f 9 = _ := hR.out 9 rfl
       simp only [e8, e9]
       refine (onx_c HC.out X (Hr.out.ext hX).pt).mono ?_
       rw [Ho'.out]
       rintro e w2 ⟨rfl, hB⟩
       exact ⟨_, rfl, hB, fun _ _ => rfl⟩
     refine lV1 12 4 7 hc4 infoRC ?_
     refine lV1 13 3 7 hv5 infoRP ?_
     refine Par.c1 14 2 7 (fun f => #[f 11, f 12]) (F' := 16) (fun f X hX hR => ?_) ?_
     · have e11 : f 11 = _ := hR.out 11 rfl
       have e12 : f 12 = _ := hR.out 12 rfl
       simp only [e11, e12]
       refine (refOn_any HC.out.fine _ _ _ _ _ _ _ _ (Hrc.out.ext hX) (RN.up Hu5.out hX) (RN.up Hv5.out hX)).mono ?_
       rw [Hq'.out]
       rintro e w2 ⟨rfl, hB⟩
       exact ⟨_, rfl, hB, fun _ _ => rfl⟩
     refine Par.S 15 1 [(49, 0), (50, 1), (51, 2), (52, 3), (53, 4), (54, 5), (55, 6), (56, 7), (57, 8), (58, 9), (59, 10), (60, 11), (61, 12), (62, 13)] (fun f X hX hR K hK => ?_) ?_
     · have e7 : f 7 = _ := hR.out 7 rfl
       have e10 : f 10 = _ := hR.out 10 rfl
       have e13 : f 13 = _ := hR.out 13 rfl
       simp only [yA, yB, yC, yD, yE, e7, e10, e13]
       refine ⟨Par.want (by kernel_rfl) ?_⟩
       go_simp
       exact Par.k hK (s := by simp only [yA, yB, yC, yD, yE, e7, e10, e13])
     refine Par.v2 16 0 7 14 ?_
     refine Par.AllOps.fin ⟨fun f X hX hR hal hap => ?_⟩
     have e15 : f 15 = _ := hR 15 (by decide)
     simp only [yA, yB, yD, yE, e15]
     clear hR hal hap e15
     refine Par.Chain.done ?_
     replace hp3 := hX.at_ hp3
     replace hr3 := hX.at_ hr3
     replace hc4 := hX.at_ hc4
     replace hu5 := hX.at_ hu5
     replace hv5 := hX.at_ hv5
     replace hs8 := hX.at_ hs8
     replace ht9 := hX.at_ ht9
     replace HE := Lib.hid (HE.out.trans hX)
     replace Hp := Lib.hid (Hp.out.ext hX)
     replace Hr := Lib.hid (Hr.out.ext hX)
     replace Hrc := Lib.hid (Hrc.out.ext hX)
     replace Hx5 := Lib.hid (RN.up Hx5.out hX)
     replace Hy5 := Lib.hid (RN.up Hy5.out hX)
     replace Hu5 := Lib.hid (RN.up Hu5.out hX)
     replace Hv5 := Lib.hid (RN.up Hv5.out hX)
     replace Hs := Lib.hid (Hs.out.ext hX)
     replace Ht := Lib.hid (Ht.out.ext hX)
     clear hX
     obtain ⟨z0, z1, z2, z3, z4, z5⟩ := six_facts hc4
     obtain ⟨y0, y1, y2, f0, f1, f2⟩ := pt_facts hu5
     go_upto_region 11 with (go_at_call 16; refine (refOn_any HC.out.fine _ _ _ _ _ _ _ _ Hrc.out Hx5.out Hy5.out).mono ?_; rw [Hq.out]; rintro e w9 ⟨rfl, hE⟩)
     clear z0 z1 z2 z3 z4 z5 y0 y1 y2 f0 f1 f2
     replace hp3 := hE.at_ hp3
     replace hr3 := hE.at_ hr3
     replace hc4 := hE.at_ hc4
     replace hu5 := hE.at_ hu5
     replace hv5 := hE.at_ hv5
     replace hs8 := hE.at_ hs8
     replace ht9 := hE.at_ ht9
     replace HE := Lib.hid (HE.out.trans hE)
     replace Hp := Lib.hid (Hp.out.ext hE)
     replace Hr := Lib.hid (Hr.out.ext hE)
     replace Hrc := Lib.hid (Hrc.out.ext hE)
     replace Hx5 := Lib.hid (RN.up Hx5.out hE)
     replace Hy5 := Lib.hid (RN.up Hy5.out hE)
     replace Hu5 := Lib.hid (RN.up Hu5.out hE)
     replace Hv5 := Lib.hid (RN.up Hv5.out hE)
     replace Hs := Lib.hid (Hs.out.ext hE)
     replace Ht := Lib.hid (Ht.out.ext hE)
     clear hE
     have Hlt := Lib.hid (show bi = false → y < C.M from fun h => (onB_lt (show onB C.M C.bb x y = true from by have h1 := Hq.out; rw [h] at h1; exact h1)).2)
     refine Par.region_ext (by kernel_rfl) 10 [0, 1, 3, 7, 7, 7, 55, 127, 255, 511] [] (fun j f X => match j with
      | 0 => f 0 = .bool true
      | 1 => f 1 = .bool false
      | 2 => f 2 = .bool false
      | 3 => f 3 = .agg #[.bool T.isNone, s91, s92]
      | 4 => f 4 = .agg #[.slice Ap (digs 4294967296 C.M).length cp, .slice An (digs 4294967296 (val 18446744073709551616 C.nl)).length cn, .slice Ab (digs 4294967296 C.bb).length cb, .slice Ax (digs 4294967296 (val 18446744073709551616 C.xl)).length cx, .slice Ay (digs 4294967296 (val 18446744073709551616 C.yl)).length cy, .int .i64 (C.size : Int)]
      | 5 => f 5 = .agg #[.bool bi, .slice A1 (digs 4294967296 x).length c1, .slice B1 (digs 4294967296 y).length d1]
      | 6 => ∃ o, f 6 = o ∧ RPv X o T.isNone (T.elim 0 (·.1)) (T.elim 0 (·.2))
      | 7 => f 7 = .bool true
      | 8 => f 8 = .bool false
      | 9 => f 9 = .bool false
      | _ => True) (by kernel_rfl) [(86, 0), (87, 1), (88, 2), (89, 3), (90, 4), (91, 5), (92, 6), (93, 7), (94, 8), (95, 9)] (by kernel_rfl) ?_
     refine Par.v0 1 9 ?_
     refine Par.v1 2 8 0 ?_
     refine Par.v1 3 7 1 ?_
     refine lV1 4 6 2 ht9 infoP ?_
     refine lV1 5 5 2 hc4 infoRC ?_
     refine lV1 6 4 2 hu5 infoRP ?_
     refine Par.c1 7 3 2 (fun f => #[f 4, f 5]) (F' := 38) (fun f X hX hR => ?_) ?_
     · have e4 : f 4 = _ := hR.out 4 rfl
       have e5 : f 5 = _ := hR.out 5 rfl
       simp only [e4, e5]
       refine (rneg_n HC.out.fine X (Hrc.out.ext hX) (RN.up Hx5.out hX) (RN.up Hy5.out hX) Hlt.out).mono ?_
       rw [HT2.out]
       rintro e w2 ⟨o, rfl, h, hB⟩
       exact ⟨o, rfl, hB, fun Y hY => ⟨o, rfl, RPv.ext h hY⟩⟩
     refine Par.c1 8 2 2 (fun f => #[f 3, f 6]) (F' := 17) (fun f X hX hR => ?_) ?_
     · have e3 : f 3 = _ := hR.out 3 rfl
       obtain ⟨o6, (e6 : f 6 = _), h6⟩ := hR.out 6 rfl
       simp only [e3, e6]
       refine (ris_n X (Ht.out.ext hX) h6).mono ?_
       rintro e w2 ⟨he, hB⟩
       simp only [beq_self_eq_true, decide_true, Bool.and_self] at he
       subst he
       exact ⟨_, rfl, hB, fun _ _ => rfl⟩
     refine Par.v2 9 1 2 7 ?_
     refine Par.v2 10 0 2 8 ?_
     refine Par.AllOps.fin ⟨fun f X hX hR hal hap => ?_⟩
     obtain ⟨o6, (e6 : f 6 = _), h6⟩ := hR 6 (by decide)
     have e9 : f 9 = _ := hR 9 (by decide)
     simp only [yA, yB, yD, yE, e6, e9]
     clear hR hal hap e6 e9
     refine Par.Chain.done ?_
     replace hp3 := hX.at_ hp3
     replace hr3 := hX.at_ hr3
     replace hc4 := hX.at_ hc4
     replace hu5 := hX.at_ hu5
     replace hv5 := hX.at_ hv5
     replace hs8 := hX.at_ hs8
     replace ht9 := hX.at_ ht9
     replace HE := Lib.hid (HE.out.trans hX)
     replace Hp := Lib.hid (Hp.out.ext hX)
     replace Hr := Lib.hid (Hr.out.ext hX)
     replace Hrc := Lib.hid (Hrc.out.ext hX)
     replace Hx5 := Lib.hid (RN.up Hx5.out hX)
     replace Hy5 := Lib.hid (RN.up Hy5.out hX)
     replace Hu5 := Lib.hid (RN.up Hu5.out hX)
     replace Hv5 := Lib.hid (RN.up Hv5.out hX)
     replace Hs := Lib.hid (Hs.out.ext hX)
     replace Ht := Lib.hid (Ht.out.ext hX)
     clear hX
     obtain ⟨z0, z1, z2, z3, z4, z5⟩ := six_facts hc4
     obtain ⟨y0, y1, y2, f0, f1, f2⟩ := pt_facts hv5
     go_upto_region 15 with (go_at_call 16; refine (refOn_any HC.out.fine _ _ _ _ _ _ _ _ Hrc.out Hu5.out Hv5.out).mono ?_; rw [Hq'.out]; rintro e w10 ⟨rfl, hE⟩)
     clear z0 z1 z2 z3 z4 z5 y0 y1 y2 f0 f1 f2
     replace hp3 := hE.at_ hp3
     replace hr3 := hE.at_ hr3
     replace hc4 := hE.at_ hc4
     replace hu5 := hE.at_ hu5
     replace hv5 := hE.at_ hv5
     replace hs8 := hE.at_ hs8
     replace ht9 := hE.at_ ht9
     replace HE := Lib.hid (HE.out.trans hE)
     replace Hp := Lib.hid (Hp.out.ext hE)
     replace Hr := Lib.hid (Hr.out.ext hE)
     replace Hrc := Lib.hid (Hrc.out.ext hE)
     replace Hx5 := Lib.hid (RN.up Hx5.out hE)
     replace Hy5 := Lib.hid (RN.up Hy5.out hE)
     replace Hu5 := Lib.hid (RN.up Hu5.out hE)
     replace Hv5 := Lib.hid (RN.up Hv5.out hE)
     replace Hs := Lib.hid (Hs.out.ext hE)
     replace Ht := Lib.hid (Ht.out.ext hE)
     clear hE
     have Hp1 := Lib.hid (show bi = false → x < C.M ∧ y < C.M from fun h => onB_lt (show onB C.M C.bb x y = true from by have h1 := Hq.out; rw [h] at h1; exact h1))
     have Hp2 := Lib.hid (show bj = false → u < C.M ∧ v < C.M from fun h => onB_lt (show onB C.M C.bb u v = true from by have h1 := Hq'.out; rw [h] at h1; exact h1))
     refine Par.region_ext (by kernel_rfl) 13 [0, 1, 3, 7, 15, 31, 31, 31, 31, 479, 1023, 2047, 4095] [] (fun j f X => match j with
      | 0 => f 0 = .bool true
      | 1 => f 1 = .bool true
      | 2 => f 2 = .bool true
      | 3 => f 3 = .bool true
      | 4 => f 4 = .bool true
      | 5 => f 5 = .agg #[.bool S.isNone, s81, s82]
      | 6 => f 6 = .agg #[.slice Ap (digs 4294967296 C.M).length cp, .slice An (digs 4294967296 (val 18446744073709551616 C.nl)).length cn, .slice Ab (digs 4294967296 C.bb).length cb, .slice Ax (digs 4294967296 (val 18446744073709551616 C.xl)).length cx, .slice Ay (digs 4294967296 (val 18446744073709551616 C.yl)).length cy, .int .i64 (C.size : Int)]
      | 7 => f 7 = .agg #[.bool bi, .slice A1 (digs 4294967296 x).length c1, .slice B1 (digs 4294967296 y).length d1]
      | 8 => f 8 = .agg #[.bool bj, .slice A3 (digs 4294967296 u).length c3, .slice B3 (digs 4294967296 v).length d3]
      | 9 => ∃ o, f 9 = o ∧ RPv X o S.isNone (S.elim 0 (·.1)) (S.elim 0 (·.2))
      | 10 => f 10 = .bool true
      | 11 => f 11 = .bool true
      | 12 => f 12 = .bool true
      | _ => True) (by kernel_rfl) [(109, 0), (110, 1), (111, 2), (112, 3), (113, 4), (114, 5), (115, 6), (116, 7), (117, 8), (118, 9), (119, 10), (120, 11), (10, 12)] (by kernel_rfl) ?_
     refine Par.v0 1 12 ?_
     refine Par.v1 2 11 0 ?_
     refine Par.v1 3 10 1 ?_
     refine Par.v2 4 9 1 2 ?_
     refine Par.v1 5 8 3 ?_
     refine lV1 6 7 4 hs8 infoP ?_
     refine lV1 7 6 4 hc4 infoRC ?_
     refine lV1 8 5 4 hu5 infoRP ?_
     refine lV1 9 4 4 hv5 infoRP ?_
     refine Par.c1 10 3 4 (fun f => #[f 6, f 7, f 8]) (F' := 31) (fun f X hX hR => ?_) ?_
     · have e6 : f 6 = _ := hR.out 6 rfl
       have e7 : f 7 = _ := hR.out 7 rfl
       have e8 : f 8 = _ := hR.out 8 rfl
       simp only [e6, e7, e8]
       refine (radd_n HC.out.fine HC.out.ptlt.2.2 X (Hrc.out.ext hX) (RN.up Hx5.out hX) (RN.up Hy5.out hX) (RN.up Hu5.out hX) (RN.up Hv5.out hX) Hp1.out Hp2.out).mono ?_
       rw [HS2.out]
       rintro e w2 ⟨o, rfl, h, hB⟩
       exact ⟨o, rfl, hB, fun Y hY => ⟨o, rfl, RPv.ext h hY⟩⟩
     refine Par.c1 11 2 4 (fun f => #[f 5, f 9]) (F' := 17) (fun f X hX hR => ?_) ?_
     · have e5 : f 5 = _ := hR.out 5 rfl
       obtain ⟨o9, (e9 : f 9 = _), h9⟩ := hR.out 9 rfl
       simp only [e5, e9]
       refine (ris_n X (Hs.out.ext hX) h9).mono ?_
       rintro e w2 ⟨he, hB⟩
       simp only [beq_self_eq_true, decide_true, Bool.and_self] at he
       subst he
       exact ⟨_, rfl, hB, fun _ _ => rfl⟩
     refine Par.v2 12 1 4 10 ?_
     refine Par.v1 13 0 11 ?_
     refine Par.AllOps.fin ⟨fun f X hX hR hal hap => ?_⟩
     obtain ⟨o9, (e9 : f 9 = _), h9⟩ := hR 9 (by decide)
     have e12 : f 12 = _ := hR 12 (by decide)
     simp only [yA, yB, yD, yE, e9, e12]
     clear hR hal hap e9 e12
     refine Par.Chain.done ?_
     go_wp2
     go_ret
     exact ⟨rfl, HE.out.trans hX⟩
set_option maxRecDepth 100000 in
set_option maxHeartbeats 8000000 in
theorem add_law_n {c : Int} (g1 : c ≠ 1) (g2 : c ≠ 2) {P : Nat → Prop} {A A' : Option Addr} {cap cap' : Nat} {l l' : List Nat} (sp sp' : Bool) (w : World) (hk : RL w P A cap l) (ha : RL w P A' cap' l') (hP : ∀ b, P b → b < w.heap.size) :
 Calls Try.prog 8 #[.int .i64 c, .slice A l.length cap, .slice A' l'.length cap', .bool sp, .bool sp'] w fun e w' => e = .returned (.bool true) ∧ Ext w w' := by
 have HK := Lib.hid hk
 have HA := Lib.hid ha
 have HP := Lib.hid hP
 clear hk ha hP
 go_enter Try.func8, Try.ntmps8
 go_upto_region 2 with (go_at_call 10; refine (begun9_any _).mono ?_; rintro e w1 ⟨rfl, hE1⟩)
 have HE1 := Lib.hid hE1
 clear hE1
 go_upto_region 3 with (first
  | (go_at_call_has 12 A; refine (point_none g1 g2 A l.length cap sp w1).mono ?_; rintro e w2 ⟨rfl, hE2⟩)
  | (go_at_call_has 12 A'; refine (point_none g1 g2 A' l'.length cap' sp' w2).mono ?_; rintro e w3 ⟨rfl, hE3⟩))
 have HE := Lib.hid ((HE1.out.trans hE2).trans hE3)
 clear hE2 hE3 HE1
 have hp3 := (two_at2 w3 (.cells #[.bool false, .slice A l.length cap, .slice A l.length cap] 27) (.cells #[.bool false, .slice A' l'.length cap', .slice A' l'.length cap'] 27)).1
 have hr3 := (two_at2 w3 (.cells #[.bool false, .slice A l.length cap, .slice A l.length cap] 27) (.cells #[.bool false, .slice A' l'.length cap', .slice A' l'.length cap'] 27)).2.1
 have hA2 : Ext w3 ((w3.alloc (.cells #[.bool false, .slice A l.length cap, .slice A l.length cap] 27)).alloc (.cells #[.bool false, .slice A' l'.length cap', .slice A' l'.length cap'] 27)) := (Ext.alloc _ _).trans (Ext.alloc _ _)
 replace HE := Lib.hid (HE.out.trans hA2)
 generalize hV : (w3.alloc (.cells #[.bool false, .slice A l.length cap, .slice A l.length cap] 27)).alloc (.cells #[.bool false, .slice A' l'.length cap', .slice A' l'.length cap'] 27) = V3 at *
 obtain ⟨b3, hq⟩ : ∃ b, w3.heap.size = b := ⟨_, rfl⟩
 rw [hq] at hp3 hr3 ⊢
 clear hV hq hA2
 go_upto_region 4 with (go_at_call 13; refine (refOf_none g1 g2 _).mono ?_; rintro e w4 ⟨v, rfl, ⟨Ap, An, Ab, Ax, Ay, cp, cn, cb, cx, cy, rfl, hp, hn, hb, hx, hy⟩, hE4⟩)
 have Hrc := Lib.hid (show RC w4 c0 (.agg #[.slice Ap (digs 4294967296 c0.M).length cp, .slice An (digs 4294967296 (val 18446744073709551616 c0.nl)).length cn, .slice Ab (digs 4294967296 c0.bb).length cb, .slice Ax (digs 4294967296 (val 18446744073709551616 c0.xl)).length cx, .slice Ay (digs 4294967296 (val 18446744073709551616 c0.yl)).length cy, .int .i64 (c0.size : Int)]) from ⟨Ap, An, Ab, Ax, Ay, cp, cn, cb, cx, cy, rfl, hp, hn, hb, hx, hy⟩)
 clear hp hn hb hx hy
 replace hp3 := hE4.at_ hp3
 replace hr3 := hE4.at_ hr3
 replace HE := Lib.hid (HE.out.trans hE4)
 clear hE4
 have hc4 := heap_alloc_new w4 (.cells #[.slice Ap (digs 4294967296 c0.M).length cp, .slice An (digs 4294967296 (val 18446744073709551616 c0.nl)).length cn, .slice Ab (digs 4294967296 c0.bb).length cb, .slice Ax (digs 4294967296 (val 18446744073709551616 c0.xl)).length cx, .slice Ay (digs 4294967296 (val 18446744073709551616 c0.yl)).length cy, .int .i64 (c0.size : Int)] 31)
 have hA := Ext.alloc w4 (.cells #[.slice Ap (digs 4294967296 c0.M).length cp, .slice An (digs 4294967296 (val 18446744073709551616 c0.nl)).length cn, .slice Ab (digs 4294967296 c0.bb).length cb, .slice Ax (digs 4294967296 (val 18446744073709551616 c0.xl)).length cx, .slice Ay (digs 4294967296 (val 18446744073709551616 c0.yl)).length cy, .int .i64 (c0.size : Int)] 31)
 replace hp3 := hA.at_ hp3
 replace hr3 := hA.at_ hr3
 replace HE := Lib.hid (HE.out.trans hA)
 replace Hrc := Lib.hid (Hrc.out.ext hA)
 generalize hV : w4.alloc (.cells #[.slice Ap (digs 4294967296 c0.M).length cp, .slice An (digs 4294967296 (val 18446744073709551616 c0.nl)).length cn, .slice Ab (digs 4294967296 c0.bb).length cb, .slice Ax (digs 4294967296 (val 18446744073709551616 c0.xl)).length cx, .slice Ay (digs 4294967296 (val 18446744073709551616 c0.yl)).length cy, .int .i64 (c0.size : Int)] 31) = V4 at *
 obtain ⟨b4, hq⟩ : ∃ b, w4.heap.size = b := ⟨_, rfl⟩
 rw [hq] at hc4 ⊢
 clear hV hq hA
 refine Par.region_ext (by kernel_rfl) 6 [0, 1, 0, 7, 0, 0, 63, 127] [4, 5] (fun j f X => match j with
  | 0 => f 0 = .agg #[.bool false, .slice A l.length cap, .slice A l.length cap]
  | 1 => ∃ B n k D m j, f 1 = .agg #[.bool false, .slice B n k, .slice D m j]
  | 2 => f 2 = .agg #[.bool false, .slice A' l'.length cap', .slice A' l'.length cap']
  | 3 => ∃ B n k D m j, f 3 = .agg #[.bool false, .slice B n k, .slice D m j]
  | 4 => ∃ b, f 4 = .pointer (some ⟨b, 0, none⟩) ∧ V4.heap.size ≤ b ∧ X.heap[b]? = some (.cells #[.bool false, .slice none 0 0, .slice none 0 0] 34 (0, 0))
  | 5 => ∃ b, f 5 = .pointer (some ⟨b, 0, none⟩) ∧ V4.heap.size ≤ b ∧ X.heap[b]? = some (.cells #[.bool false, .slice none 0 0, .slice none 0 0] 34 (0, 0))
  | _ => True) (by kernel_rfl) [(32, 0), (33, 1), (34, 2), (35, 3), (15, 4), (16, 5)] (by kernel_rfl) ?_
 refine lV0 1 5 hp3 infoP ?_
 refine Par.c0 2 4 (fun f => #[f 0]) (F' := 14) (fun f X hX hR => ?_) ?_
 · have e0 : f 0 = _ := hR.out 0 rfl
   simp only [e0]
   refine (rfrom_w X (HK.out.below (HE.out.trans hX) HP.out) (HK.out.below (HE.out.trans hX) HP.out) (fun b hb => Nat.lt_of_lt_of_le (HP.out b hb) (HE.out.trans hX).bsize)).mono ?_
   rintro e w2 ⟨⟨B, n, k, D, m, j, rfl⟩, hB⟩
   exact ⟨(.agg #[.bool false, .slice B n k, .slice D m j]), rfl, hB, fun Y hY => ⟨B, n, k, D, m, j, rfl⟩⟩
 refine lV0 3 3 hr3 infoP ?_
 refine Par.c0 4 2 (fun f => #[f 2]) (F' := 14) (fun f X hX hR => ?_) ?_
 · have e2 : f 2 = _ := hR.out 2 rfl
   simp only [e2]
   refine (rfrom_w X (HA.out.below (HE.out.trans hX) HP.out) (HA.out.below (HE.out.trans hX) HP.out) (fun b hb => Nat.lt_of_lt_of_le (HP.out b hb) (HE.out.trans hX).bsize)).mono ?_
   rintro e w2 ⟨⟨B, n, k, D, m, j, rfl⟩, hB⟩
   exact ⟨(.agg #[.bool false, .slice B n k, .slice D m j]), rfl, hB, fun Y hY => ⟨B, n, k, D, m, j, rfl⟩⟩
 refine Par.al 5 1 ?_
 refine Par.al 6 0 ?_
 refine Par.AllOps.fin ⟨fun f X hX hR hal hap => ?_⟩
 obtain ⟨B1, n1, k1, D1, m1, j1, (e1 : f 1 = _)⟩ := hR 1 (by decide)
 obtain ⟨B3, n3, k3, D3, m3, j3, (e3 : f 3 = _)⟩ := hR 3 (by decide)
 obtain ⟨bz4, (e4 : f 4 = _), lz4, hz4⟩ := hR 4 (by decide)
 obtain ⟨bz5, (e5 : f 5 = _), lz5, hz5⟩ := hR 5 (by decide)
 have nz5_4 : bz5 ≠ bz4 := fun e => hap 5 4 (by decide) (by decide) rfl rfl (by decide) (by rw [e5, e4, e])
 simp only [yA, yB, yD, yE, e1, e3, e4, e5]
 clear hR hal hap e1 e3 e4 e5
 refine Par.Chain.next (fun K hK => ⟨Par.want (by kernel_rfl) (wp_storeV (cs' := #[.bool false, .slice B1 n1 k1, .slice D1 m1 j1]) (t := 34) 34 (.tmp 15) (.tmp 33) rfl rfl rfl rfl hz4 infoRP rfl (pt_one _ _ _ _ _ _ _) (fun Y1 h11 h12 h13 => hK.out _ _ ?_))⟩)
 refine Par.Chain.next (fun K hK => ⟨Par.want (by kernel_rfl) (wp_storeV (cs' := #[.bool false, .slice B3 n3 k3, .slice D3 m3 j3]) (t := 34) 34 (.tmp 16) (.tmp 35) rfl rfl rfl rfl (h12.at_ nz5_4 hz5) infoRP rfl (pt_one _ _ _ _ _ _ _) (fun Y2 h21 h22 h23 => hK.out _ _ ?_))⟩)
 refine Par.Chain.done ?_
 have hY1 : Ext V4 Y1 := h12.ext hX lz4
 have hEY : Ext V4 Y2 := h22.ext hY1 lz5
 have hu5 := h22.at_ (Ne.symm nz5_4) h11
 have hv5 := h21
 clear h11 h12 h13 h21 h22 h23 hY1 hX
 replace hp3 := hEY.at_ hp3
 replace hr3 := hEY.at_ hr3
 replace hc4 := hEY.at_ hc4
 replace HE := Lib.hid (HE.out.trans hEY)
 replace Hrc := Lib.hid (Hrc.out.ext hEY)
 clear hEY hz4 hz5 lz4 lz5 nz5_4
 obtain ⟨y0, y1, y2, f0, f1, f2⟩ := pt_facts hp3
 obtain ⟨y0', y1', y2', f0', f1', f2'⟩ := pt_facts hr3
 go_upto_region 6 with (go_at_call 21; refine (add_none g1 g2 _ _ _ _ _ _ _).mono ?_; rintro e w6 ⟨rfl, hE6⟩; simp only [infV])
 clear y0 y1 y2 f0 f1 f2 y0' y1' y2' f0' f1' f2'
 replace hp3 := hE6.at_ hp3
 replace hr3 := hE6.at_ hr3
 replace hc4 := hE6.at_ hc4
 replace hu5 := hE6.at_ hu5
 replace hv5 := hE6.at_ hv5
 replace HE := Lib.hid (HE.out.trans hE6)
 replace Hrc := Lib.hid (Hrc.out.ext hE6)
 clear hE6
 have hs8 := heap_alloc_new w6 (.cells #[.bool true, .slice none 0 0, .slice none 0 0] 27)
 have hA := Ext.alloc w6 (.cells #[.bool true, .slice none 0 0, .slice none 0 0] 27)
 replace hp3 := hA.at_ hp3
 replace hr3 := hA.at_ hr3
 replace hc4 := hA.at_ hc4
 replace hu5 := hA.at_ hu5
 replace hv5 := hA.at_ hv5
 replace HE := Lib.hid (HE.out.trans hA)
 replace Hrc := Lib.hid (Hrc.out.ext hA)
 generalize hV : w6.alloc (.cells #[.bool true, .slice none 0 0, .slice none 0 0] 27) = V6 at *
 obtain ⟨b8, hq⟩ : ∃ b, w6.heap.size = b := ⟨_, rfl⟩
 rw [hq] at hs8 ⊢
 clear hV hq hA
 obtain ⟨y0, y1, y2, f0, f1, f2⟩ := pt_facts hp3
 go_upto_region 7 with (go_at_call 36; refine (neg_none g1 g2 _ _ _ _).mono ?_; rintro e w7 ⟨rfl, hE7⟩; simp only [infV])
 clear y0 y1 y2 f0 f1 f2
 replace hp3 := hE7.at_ hp3
 replace hr3 := hE7.at_ hr3
 replace hc4 := hE7.at_ hc4
 replace hu5 := hE7.at_ hu5
 replace hv5 := hE7.at_ hv5
 replace hs8 := hE7.at_ hs8
 replace HE := Lib.hid (HE.out.trans hE7)
 replace Hrc := Lib.hid (Hrc.out.ext hE7)
 clear hE7
 have ht9 := heap_alloc_new w7 (.cells #[.bool true, .slice none 0 0, .slice none 0 0] 27)
 have hA := Ext.alloc w7 (.cells #[.bool true, .slice none 0 0, .slice none 0 0] 27)
 replace hp3 := hA.at_ hp3
 replace hr3 := hA.at_ hr3
 replace hc4 := hA.at_ hc4
 replace hu5 := hA.at_ hu5
 replace hv5 := hA.at_ hv5
 replace hs8 := hA.at_ hs8
 replace HE := Lib.hid (HE.out.trans hA)
 replace Hrc := Lib.hid (Hrc.out.ext hA)
 generalize hV : w7.alloc (.cells #[.bool true, .slice none 0 0, .slice none 0 0] 27) = V7 at *
 obtain ⟨b9, hq⟩ : ∃ b, w7.heap.size = b := ⟨_, rfl⟩
 rw [hq] at ht9 ⊢
 clear hV hq hA
 refine Par.region_ext (by kernel_rfl) 16 [0, 0, 3, 0, 0, 31, 63, 127, 255, 255, 1023, 255, 255, 8191, 16383, 32767] [] (fun j f X => match j with
  | 0 => f 0 = .int .i64 c
  | 1 => f 1 = .agg #[.bool false, .slice A l.length cap, .slice A l.length cap]
  | 2 => f 2 = .bool false
  | 3 => f 3 = .agg #[.slice Ap (digs 4294967296 c0.M).length cp, .slice An (digs 4294967296 (val 18446744073709551616 c0.nl)).length cn, .slice Ab (digs 4294967296 c0.bb).length cb, .slice Ax (digs 4294967296 (val 18446744073709551616 c0.xl)).length cx, .slice Ay (digs 4294967296 (val 18446744073709551616 c0.yl)).length cy, .int .i64 (c0.size : Int)]
  | 4 => f 4 = .agg #[.bool false, .slice B1 n1 k1, .slice D1 m1 j1]
  | 5 => f 5 = .bool false
  | 6 => f 6 = .bool false
  | 7 => f 7 = .bool false
  | 8 => f 8 = .int .i64 c
  | 9 => f 9 = .agg #[.bool false, .slice A' l'.length cap', .slice A' l'.length cap']
  | 10 => f 10 = .bool false
  | 11 => f 11 = .agg #[.slice Ap (digs 4294967296 c0.M).length cp, .slice An (digs 4294967296 (val 18446744073709551616 c0.nl)).length cn, .slice Ab (digs 4294967296 c0.bb).length cb, .slice Ax (digs 4294967296 (val 18446744073709551616 c0.xl)).length cx, .slice Ay (digs 4294967296 (val 18446744073709551616 c0.yl)).length cy, .int .i64 (c0.size : Int)]
  | 12 => f 12 = .agg #[.bool false, .slice B3 n3 k3, .slice D3 m3 j3]
  | 13 => f 13 = .bool false
  | 14 => f 14 = .bool false
  | 15 => f 15 = .bool false
  | _ => True) (by kernel_rfl) [(49, 0), (50, 1), (51, 2), (52, 3), (53, 4), (54, 5), (55, 6), (56, 7), (57, 8), (58, 9), (59, 10), (60, 11), (61, 12), (62, 13), (63, 14), (64, 15)] (by kernel_rfl) ?_
 refine Par.v0 1 15 ?_
 refine lV0 2 14 hp3 infoP ?_
 refine Par.c0 3 13 (fun f => #[f 0, f 1]) (F' := 37) (fun f X hX hR => ?_) ?_
 · have e0 : f 0 = _ := hR.out 0 rfl
   have e1 : f 1 = _ := hR.out 1 rfl
   simp only [e0, e1]
   refine (onx_none g1 g2 _ _ _ X).mono ?_
   rintro e w2 ⟨rfl, hB⟩
   exact ⟨_, rfl, hB, fun _ _ => rfl⟩
 refine lV0 4 12 hc4 infoRC ?_
 refine lV0 5 11 hu5 infoRP ?_
 refine Par.c0 6 10 (fun f => #[f 3, f 4]) (F' := 16) (fun f X hX hR => ?_) ?_
 · have e3 : f 3 = _ := hR.out 3 rfl
   have e4 : f 4 = _ := hR.out 4 rfl
   simp only [e3, e4]
   refine (ron_none _ _ _ X (Hrc.out.ext hX)).mono ?_
   rintro e w2 ⟨rfl, hB⟩
   exact ⟨_, rfl, hB, fun _ _ => rfl⟩
 refine Par.v2 7 9 2 5 ?_
 refine Par.v1 8 8 6 ?_
 refine Par.v1 9 7 7 ?_
 refine lV1 10 6 7 hr3 infoP ?_
 refine Par.c1 11 5 7 (fun f => #[f 8, f 9]) (F' := 37) (fun f X hX hR => ?_) ?_
 · have e8 : f 8 = _ := hR.out 8 rfl
   have e9 : f 9 = _ := hR.out 9 rfl
   simp only [e8, e9]
   refine (onx_none g1 g2 _ _ _ X).mono ?_
   rintro e w2 ⟨rfl, hB⟩
   exact ⟨_, rfl, hB, fun _ _ => rfl⟩
 refine lV1 12 4 7 hc4 infoRC ?_
 refine lV1 13 3 7 hv5 infoRP ?_
 refine Par.c1 14 2 7 (fun f => #[f 11, f 12]) (F' := 16) (fun f X hX hR => ?_) ?_
 · have e11 : f 11 = _ := hR.out 11 rfl
   have e12 : f 12 = _ := hR.out 12 rfl
   simp only [e11, e12]
   refine (ron_none _ _ _ X (Hrc.out.ext hX)).mono ?_
   rintro e w2 ⟨rfl, hB⟩
   exact ⟨_, rfl, hB, fun _ _ => rfl⟩
 refine Par.S 15 1 [(49, 0), (50, 1), (51, 2), (52, 3), (53, 4), (54, 5), (55, 6), (56, 7), (57, 8), (58, 9), (59, 10), (60, 11), (61, 12), (62, 13)] (fun f X hX hR K hK => ?_) ?_
 · have e7 : f 7 = _ := hR.out 7 rfl
   have e10 : f 10 = _ := hR.out 10 rfl
   have e13 : f 13 = _ := hR.out 13 rfl
   simp only [yA, yB, yC, yD, yE, e7, e10, e13]
   refine ⟨Par.want (by kernel_rfl) ?_⟩
   go_simp
   exact Par.k hK (s := by simp only [yA, yB, yC, yD, yE, e7, e10, e13])
 refine Par.v2 16 0 7 14 ?_
 refine Par.AllOps.fin ⟨fun f X hX hR hal hap => ?_⟩
 have e15 : f 15 = _ := hR 15 (by decide)
 simp only [yA, yB, yD, yE, e15]
 clear hR hal hap e15
 refine Par.Chain.done ?_
 replace hp3 := hX.at_ hp3
 replace hr3 := hX.at_ hr3
 replace hc4 := hX.at_ hc4
 replace hu5 := hX.at_ hu5
 replace hv5 := hX.at_ hv5
 replace hs8 := hX.at_ hs8
 replace ht9 := hX.at_ ht9
 replace HE := Lib.hid (HE.out.trans hX)
 replace Hrc := Lib.hid (Hrc.out.ext hX)
 clear hX
 obtain ⟨z0, z1, z2, z3, z4, z5⟩ := six_facts hc4
 obtain ⟨y0, y1, y2, f0, f1, f2⟩ := pt_facts hu5
 go_upto_region 10 with (go_at_call 16; refine (ron_none _ _ _ _ Hrc.out).mono ?_; rintro e w9 ⟨rfl, hE⟩)
 clear z0 z1 z2 z3 z4 z5 y0 y1 y2 f0 f1 f2
 replace hp3 := hE.at_ hp3
 replace hr3 := hE.at_ hr3
 replace hc4 := hE.at_ hc4
 replace hu5 := hE.at_ hu5
 replace hv5 := hE.at_ hv5
 replace hs8 := hE.at_ hs8
 replace ht9 := hE.at_ ht9
 replace HE := Lib.hid (HE.out.trans hE)
 replace Hrc := Lib.hid (Hrc.out.ext hE)
 clear hE
 obtain ⟨y0, y1, y2, f0, f1, f2⟩ := pt_facts hs8
 obtain ⟨y0', y1', y2', f0', f1', f2'⟩ := pt_facts ht9
 go_wp2
 go_ret
 exact ⟨rfl, HE.out⟩
theorem add_law {c : Int} {P : Nat → Prop} {A A' : Option Addr} {cap cap' : Nat} {l l' : List Nat} (sp sp' : Bool) (w : World) (hk : RL w P A cap l) (ha : RL w P A' cap' l') (hP : ∀ b, P b → b < w.heap.size) :
 Calls Try.prog 8 #[.int .i64 c, .slice A l.length cap, .slice A' l'.length cap', .bool sp, .bool sp'] w fun e w' => e = .returned (.bool true) ∧ Ext w w' := by
 obtain ⟨C, h | ⟨h1, h2, _⟩⟩ := isU c
 · exact add_law_c h sp sp' w hk ha hP
 · exact add_law_n h1 h2 sp sp' w hk ha hP
end Go.Proofs.Ytldhmjfjbalakaa

namespace Go.Proofs.Ytldhmjfjbalakaa.curveAdd
open Go.ChangeShapes Go.WideShapes Go.ChangeAt Go.RowKit

theorem own : ownKnob Try.prog.godebug = none := by kernel_rfl
theorem laidOut : laidOutB Try.prog = true := by kernel_rfl

set_option maxRecDepth 100000 in
theorem lifted (os : Os) (started : os.Started) (H : Type) (enc : TypeId × Value → H) :
 ReturnsInHanded {} Try.checked os 8 .any (Rows.curveAddSpec.pre6 enc Try.prog Try.f8 Rows.curveAddRow.domain false) (Rows.curveAddSpec.post enc Try.prog Try.f8 false true false false) := by
 refine returnsInHanded_of_change_sized (C := Try.checked) own started (by kernel_rfl) Try.func8
  (ChangeSpec.witness6 (enc := enc) (C := Try.checked) false ⟨#[], #[.int .i64 0, .slice none 0 0, .slice none 0 0, .bool false, .bool false], []⟩ 8 (by kernel_rfl) (by kernel_rfl) (by kernel_rfl) (by kernel_rfl)) ?_
 intro W base args ds gs before hval0 hW hcnd hsz0 _
 have hval : ∀ (j : Nat) t v, Try.f8.params[j]? = some t → args[j]? = some v → Value.okWide Try.prog W .any base t v := hval0
 have hsz : (DataW.weightsEach Try.prog (Try.f8.params.toList ++ Rows.curveAddSpec.plain.varTypes Try.prog) (ds ++ gs)).all (· ≤ reachBytes) = true := hsz0
 have hW' := hW
 obtain ⟨p, q, hA0, hV, rfl, hfz, hnd⟩ := hW
 have hA : DataW.TrodAll enc Try.prog W 0 (fun _ => true) true Try.f8.params.toList args.toList ds p := hA0
 rw [Try.params8] at hA hval hsz
 obtain ⟨v0, vs0, d0, ds0, p0, q0, hargs, rfl, rfl, h0, r0⟩ := trodAll_cons hA
 obtain ⟨v1, vs1, d1, ds1, p1, q1, rfl, rfl, rfl, h1, r1⟩ := trodAll_cons r0
 obtain ⟨v2, vs2, d2, ds2, p2, q2, rfl, rfl, rfl, h2, r2⟩ := trodAll_cons r1
 obtain ⟨v3, vs3, d3, ds3, p3, q3, rfl, rfl, rfl, h3, r3⟩ := trodAll_cons r2
 obtain ⟨v4, vs4, d4, ds4, p4, q4, rfl, rfl, rfl, h4, r4⟩ := trodAll_cons r3
 obtain ⟨rfl, rfl, rfl⟩ := trodAll_nil r4
 obtain rfl : args = #[v0, v1, v2, v3, v4] := by cases args; simp_all
 obtain ⟨rfl, rfl⟩ := trodVars_none hV
 have k0 := h0
 have lt0 : ∀ x ∈ p0, x.block < W.heap.size := by obtain ⟨m, hm⟩ := k0; exact DataW.trod_lt m _ _ _ hm
 have k1 := h1
 have lt1 : ∀ x ∈ p1, x.block < W.heap.size := by obtain ⟨m, hm⟩ := k1; exact DataW.trod_lt m _ _ _ hm
 have k2 := h2
 have lt2 : ∀ x ∈ p2, x.block < W.heap.size := by obtain ⟨m, hm⟩ := k2; exact DataW.trod_lt m _ _ _ hm
 have k3 := h3
 have lt3 : ∀ x ∈ p3, x.block < W.heap.size := by obtain ⟨m, hm⟩ := k3; exact DataW.trod_lt m _ _ _ hm
 have k4 := h4
 have lt4 : ∀ x ∈ p4, x.block < W.heap.size := by obtain ⟨m, hm⟩ := k4; exact DataW.trod_lt m _ _ _ hm
 have fit : ∀ (j : Nat) (t : TypeId) (d : DataW H), [3, 23, 23, 4, 4][j]? = some t → [d0, d1, d2, d3, d4][j]? = some d → Fits t d := fun j t d ht hd k hk => by
  have := List.all_eq_true.1 hsz k (DataW.weights_mem_each (ts := [3, 23, 23, 4, 4]) (ds := [d0, d1, d2, d3, d4]) ht hd k hk)
  simpa using this
 obtain ⟨n0, hv0, _, _, wf0⟩ := open_int Try.underlying3 (hval 0 3 v0 rfl rfl) h0
 obtain ⟨a1, len1, cap1, e1⟩ := okWide_slice Try.underlying23 (hval 1 23 v1 rfl rfl)
 obtain ⟨A1, c1, l1, hv1, hR1⟩ : ∃ A c l, v1 = .slice A (List.length l) c ∧ RL W (fun b => b < W.heap.size) A c l := by
  obtain ⟨fuel, hf⟩ := h1
  rw [e1] at hf ⊢
  exact open_nats hf (fit 1 _ _ rfl rfl)
 obtain ⟨a2, len2, cap2, e2⟩ := okWide_slice Try.underlying23 (hval 2 23 v2 rfl rfl)
 obtain ⟨A2, c2, l2, hv2, hR2⟩ : ∃ A c l, v2 = .slice A (List.length l) c ∧ RL W (fun b => b < W.heap.size) A c l := by
  obtain ⟨fuel, hf⟩ := h2
  rw [e2] at hf ⊢
  exact open_nats hf (fit 2 _ _ rfl rfl)
 obtain ⟨b3, hv3, _⟩ := open_bool Try.underlying4 (hval 3 4 v3 rfl rfl) h3
 obtain ⟨b4, hv4, _⟩ := open_bool Try.underlying4 (hval 4 4 v4 rfl rfl) h4
 clear hA0 hval0
 subst hv0 hv1 hv2 hv3 hv4
 refine (add_law b3 b4 W hR1 hR2 (fun b hb => hb)).mono fun e W' ⟨he, bel⟩ => ?_
 subst he
 exact ⟨_, rfl, _, _, _, [], _, [], hW', trodAll_mk1 (shut_bool Try.underlying4 _), (trodAll_cons_mk (Below.trod laidOut (by kernel_rfl) (of_decide_eq_true (by kernel_rfl)) k0 bel lt0) (trodAll_cons_mk (Below.trod laidOut (by kernel_rfl) (of_decide_eq_true (by kernel_rfl)) k1 bel lt1) (trodAll_cons_mk (Below.trod laidOut (by kernel_rfl) (of_decide_eq_true (by kernel_rfl)) k2 bel lt2) (trodAll_cons_mk (Below.trod laidOut (by kernel_rfl) (of_decide_eq_true (by kernel_rfl)) k3 bel lt3) (trodAll_cons_mk (Below.trod laidOut (by kernel_rfl) (of_decide_eq_true (by kernel_rfl)) k4 bel lt4) trodAll_mk0))))), rfl, bel.frame _, fun h => by cases h⟩

theorem over : Rows.curveAddRow.holds Try.pinned (OpenSpec.ofChange Rows.curveAddSpec) :=
 OpenClaim.holds_of_wide 8 Try.f8 rfl rfl rfl rfl rfl rfl rfl ⟨rfl, rfl, rfl, rfl, rfl⟩ rfl rfl rfl rfl rfl (by kernel_rfl) Try.func8 (by kernel_rfl)
  (of_decide_eq_true (by kernel_rfl)) (by unfold Func.isWrapper; first | (rw [if_pos (by decide +kernel)]; kernel_rfl) | (rw [if_neg (by decide +kernel)]; exact ⟨rfl, rfl⟩))
  (fun os started H enc _ => lifted os started H enc)

theorem proved : Rows.CurveAddSaid := over
#print axioms proved
end Go.Proofs.Ytldhmjfjbalakaa.curveAdd
