/- CurveOrder: for every curve and number the law answers true and leaves its arguments as they were. No condition. CurveOrder: the law answers true. -/
import Derived.Test.YtldhmjfjbalakaaQ26df059b3f98
namespace Go.Proofs.Ytldhmjfjbalakaa
open Go.RowKit

set_option maxRecDepth 100000 in
set_option maxHeartbeats 8000000 in
theorem ord_law_c {c : Int} {C : Crv} (hC : IsC c C) {P : Nat → Prop} {A : Option Addr} {cap : Nat} {l : List Nat} (w : World) (ha : RL w P A cap l) (hP : ∀ b, P b → b < w.heap.size) :
 Calls Try.prog 9 #[.int .i64 c, .slice A l.length cap] w fun e w' => e = .returned (.bool true) ∧ Ext w w' := by
 obtain ⟨l1, hl1⟩ : ∃ x, l.take 1 = x := ⟨_, rfl⟩
 obtain ⟨R, hR⟩ : ∃ R, rmulP C.M false (val 18446744073709551616 C.xl) (val 18446744073709551616 C.yl) (val 18446744073709551616 l1) = R := ⟨_, rfl⟩
 have hRl := hC.mul_lt hR
 have hRo := on_mul hC hC.base_on hR
 obtain ⟨Nm, hNm⟩ : ∃ x, (val 18446744073709551616 C.nl) - 1 = x := ⟨_, rfl⟩
 obtain ⟨Np, hNp⟩ : ∃ x, (val 18446744073709551616 C.nl) + 1 = x := ⟨_, rfl⟩
 obtain ⟨T, hT⟩ : ∃ T, rmulP C.M R.isNone (R.elim 0 (·.1)) (R.elim 0 (·.2)) Nm = T := ⟨_, rfl⟩
 have hO := ord_agree hC hC.base_on hC.ord_pos.1 hC.ord hR
 rw [hNm, hNp, hT] at hO
 have hb1 : nbits Nm ≤ 4096 := Nat.le_trans (nbits_lim (n := 6) (by have := hC.ord_pos; omega)) (by omega)
 have hb2 : nbits Np ≤ 4096 := Nat.le_trans (nbits_lim (n := 7) (by rw [← hNp]; exact Nat.lt_of_lt_of_le (Nat.succ_lt_succ hC.ord_pos.2) (by decide))) (by omega)
 have Ha1 := Lib.hid ((mul_agree hC hRo hb1).trans (congrArg some hT))
 have Ha2 := Lib.hid ((mul_agree hC hRo hb2).trans (congrArg some hO.2))
 have Ha3 := Lib.hid hO.1
 have HTm := Lib.hid (hC.opt_len (hC.mul_lt hT))
 have HRm := Lib.hid (hC.opt_len hRl)
 have HTv := Lib.hid (opt_val T)
 have HRv := Lib.hid (opt_val R)
 have Hl1 := Lib.hid hl1
 have HR := Lib.hid hR
 have HRl := Lib.hid hRl
 have HRo := Lib.hid hRo
 have HNm := Lib.hid hNm
 have HNp := Lib.hid hNp
 have HC := Lib.hid hC
 have HA := Lib.hid ha
 have HP := Lib.hid hP
 have HNl := Lib.hid (show (digs 4294967296 (val 18446744073709551616 C.nl)).length < 100000 from Nat.lt_of_le_of_lt (digs_length_of_lt (B := 4294967296) (n := 12) (by omega) hC.ord_pos.2) (by omega))
 have HN0 := Lib.hid hC.ord_pos.1
 have hs : C.size ≠ 0 := by have := hC.fine.pos; omega
 have hs' : ((C.size : Int) == 0) = false := by rw [beq_eq_false_iff_ne]; omega
 clear hl1 hR hC ha hP hRl hRo hT hO hb1 hb2 hNm hNp
 go_enter Try.func9, Try.ntmps9
 go_upto_region 2 with (go_at_call 10; refine (begun9_any _).mono ?_; rintro e w1 ⟨rfl, hE1⟩)
 go_upto_region 3 with (go_at_call 13; refine (refOf_c HC.out _).mono ?_; rintro e w2 ⟨v, rfl, ⟨Ap, An, Ab, Ax, Ay, cp, cn, cb, cx, cy, rfl, hp, hn, hb, hx, hy⟩, hE2⟩)
 have Hrc := Lib.hid (show RC w2 C (.agg #[.slice Ap (digs 4294967296 C.M).length cp, .slice An (digs 4294967296 (val 18446744073709551616 C.nl)).length cn, .slice Ab (digs 4294967296 C.bb).length cb, .slice Ax (digs 4294967296 (val 18446744073709551616 C.xl)).length cx, .slice Ay (digs 4294967296 (val 18446744073709551616 C.yl)).length cy, .int .i64 (C.size : Int)]) from ⟨Ap, An, Ab, Ax, Ay, cp, cn, cb, cx, cy, rfl, hp, hn, hb, hx, hy⟩)
 have Hn := Lib.hid hn
 have HE := Lib.hid (hE1.trans hE2)
 clear hp hn hb hx hy hE1 hE2
 have hc2 := heap_alloc_new w2 (.cells #[.slice Ap (digs 4294967296 C.M).length cp, .slice An (digs 4294967296 (val 18446744073709551616 C.nl)).length cn, .slice Ab (digs 4294967296 C.bb).length cb, .slice Ax (digs 4294967296 (val 18446744073709551616 C.xl)).length cx, .slice Ay (digs 4294967296 (val 18446744073709551616 C.yl)).length cy, .int .i64 (C.size : Int)] 31)
 have hA := Ext.alloc w2 (.cells #[.slice Ap (digs 4294967296 C.M).length cp, .slice An (digs 4294967296 (val 18446744073709551616 C.nl)).length cn, .slice Ab (digs 4294967296 C.bb).length cb, .slice Ax (digs 4294967296 (val 18446744073709551616 C.xl)).length cx, .slice Ay (digs 4294967296 (val 18446744073709551616 C.yl)).length cy, .int .i64 (C.size : Int)] 31)
 replace HE := Lib.hid (HE.out.trans hA)
 replace Hn := Lib.hid (RN.up Hn.out hA)
 replace Hrc := Lib.hid (Hrc.out.ext hA)
 generalize hV : w2.alloc (.cells #[.slice Ap (digs 4294967296 C.M).length cp, .slice An (digs 4294967296 (val 18446744073709551616 C.nl)).length cn, .slice Ab (digs 4294967296 C.bb).length cb, .slice Ax (digs 4294967296 (val 18446744073709551616 C.xl)).length cx, .slice Ay (digs 4294967296 (val 18446744073709551616 C.yl)).length cy, .int .i64 (C.size : Int)] 31) = V2 at *
 obtain ⟨b2, hq⟩ : ∃ b, w2.heap.size = b := ⟨_, rfl⟩
 rw [hq] at hc2 ⊢
 clear hV hq hA
 go_upto_region 4 with (go_at_call 12; refine (point_c HC.out false Hl1.out HR.out _ (HA.out.below HE.out HP.out) (fun b hb => Nat.lt_of_lt_of_le (HP.out b hb) HE.out.bsize)).mono ?_; rintro e w3 ⟨v, bi, a, b, rfl, ⟨A3, B3, c3, d3, rfl, hx3, hy3⟩, _, _, hG, hE3⟩; obtain ⟨x, y, ⟨rfl, rfl, rfl⟩, rfl, rfl⟩ := hG rfl)
 have Hp := Lib.hid (show APn w3 (.agg #[.bool R.isNone, .slice A3 (digs 18446744073709551616 (R.elim 0 (·.1))).length c3, .slice B3 (digs 18446744073709551616 (R.elim 0 (·.2))).length d3]) R.isNone (digs 18446744073709551616 (R.elim 0 (·.1))) (digs 18446744073709551616 (R.elim 0 (·.2))) from ⟨A3, B3, c3, d3, rfl, hx3, hy3⟩)
 clear hx3 hy3 hG
 generalize Value.slice A3 (digs 18446744073709551616 (R.elim 0 (·.1))).length c3 = s1 at *
 generalize Value.slice B3 (digs 18446744073709551616 (R.elim 0 (·.2))).length d3 = s2 at *
 replace hc2 := hE3.at_ hc2
 replace HE := Lib.hid (HE.out.trans hE3)
 replace Hn := Lib.hid (RN.up Hn.out hE3)
 replace Hrc := Lib.hid (Hrc.out.ext hE3)
 clear hE3
 have hp3 := heap_alloc_new w3 (.cells #[.bool R.isNone, s1, s2] 27)
 have hA := Ext.alloc w3 (.cells #[.bool R.isNone, s1, s2] 27)
 replace hc2 := hA.at_ hc2
 replace HE := Lib.hid (HE.out.trans hA)
 replace Hn := Lib.hid (RN.up Hn.out hA)
 replace Hrc := Lib.hid (Hrc.out.ext hA)
 replace Hp := Lib.hid (Hp.out.ext hA)
 generalize hV : w3.alloc (.cells #[.bool R.isNone, s1, s2] 27) = V3 at *
 obtain ⟨b3, hq⟩ : ∃ b, w3.heap.size = b := ⟨_, rfl⟩
 rw [hq] at hp3 ⊢
 clear hV hq hA
 obtain ⟨z0, z1, z2, z3, z4, z5⟩ := six_facts hc2
 refine Par.region_ext (by kernel_rfl) 10 [0, 1, 3, 7, 15, 15, 47, 127, 255, 511] [] (fun j f X => match j with
  | 0 => f 0 = .pointer (some ⟨b2, 5, none⟩)
  | 1 => f 1 = .int .i64 (C.size : Int)
  | 2 => f 2 = .bool false
  | 3 => f 3 = .bool false
  | 4 => f 4 = .agg #[.slice Ap (digs 4294967296 C.M).length cp, .slice An (digs 4294967296 (val 18446744073709551616 C.nl)).length cn, .slice Ab (digs 4294967296 C.bb).length cb, .slice Ax (digs 4294967296 (val 18446744073709551616 C.xl)).length cx, .slice Ay (digs 4294967296 (val 18446744073709551616 C.yl)).length cy, .int .i64 (C.size : Int)]
  | 5 => f 5 = .agg #[.bool R.isNone, s1, s2]
  | 6 => ∃ A B c d, f 6 = .agg #[.bool R.isNone, .slice A (digs 4294967296 (R.elim 0 (·.1))).length c, .slice B (digs 4294967296 (R.elim 0 (·.2))).length d] ∧ RU X A c (digs 4294967296 (R.elim 0 (·.1))) ∧ RU X B d (digs 4294967296 (R.elim 0 (·.2)))
  | 7 => f 7 = .bool true
  | 8 => f 8 = .bool false
  | 9 => f 9 = .bool false
  | _ => True) (by kernel_rfl) [(21, 0), (22, 1), (23, 2), (24, 3), (25, 4), (26, 5), (27, 6), (28, 7), (29, 8), (30, 9)] (by kernel_rfl) ?_
 refine Par.v0 1 9 ?_
 refine Par.ld1 2 8 0 z5 ?_
 refine Par.S 3 7 [(21, 0), (22, 1)] (fun f X hX hR K hK => ?_) ?_
 · have e1 : f 1 = _ := hR.out 1 rfl
   simp only [yA, yB, yC, yD, yE, e1]
   refine ⟨?_⟩
   go_simp
   exact Par.k hK (s := by simp only [yA, yB, yC, yD, yE, e1])
 refine Par.v1 4 6 2 ?_
 refine lV1 5 5 3 hc2 infoRC ?_
 refine lV1 6 4 3 hp3 infoP ?_
 refine Par.c1 7 3 3 (fun f => #[f 5]) (F' := 14) (fun f X hX hR => ?_) ?_
 · have e5 : f 5 = _ := hR.out 5 rfl
   simp only [e5]
   refine (rfrom_n X (Hp.out.ext hX) HRm.out.1 HRm.out.2).mono ?_
   rw [HRv.out.1, HRv.out.2]
   rintro e w2 ⟨o, rfl, ⟨A, B, c, d, rfl, hu, hv⟩, hB⟩
   exact ⟨(.agg #[.bool R.isNone, .slice A (digs 4294967296 (R.elim 0 (·.1))).length c, .slice B (digs 4294967296 (R.elim 0 (·.2))).length d]), rfl, hB, fun Y hY => ⟨A, B, c, d, rfl, RN.up hu hY, RN.up hv hY⟩⟩
 refine Par.c1 8 2 3 (fun f => #[f 4, f 6]) (F' := 16) (fun f X hX hR => ?_) ?_
 · have e4 : f 4 = _ := hR.out 4 rfl
   obtain ⟨A6, B6, c6, d6, (e6 : f 6 = _), h6, k6⟩ := hR.out 6 rfl
   simp only [e4, e6]
   refine (refOn_any HC.out.fine _ _ _ _ _ _ _ _ (Hrc.out.ext hX) h6 k6).mono ?_
   rw [show (R.isNone || onB C.M C.bb (R.elim 0 (·.1)) (R.elim 0 (·.2))) = true from HRo.out]
   rintro e w2 ⟨rfl, hB⟩
   exact ⟨_, rfl, hB, fun _ _ => rfl⟩
 refine Par.v2 9 1 3 7 ?_
 refine Par.v2 10 0 3 8 ?_
 refine Par.AllOps.fin ⟨fun f X hX hR hal hap => ?_⟩
 obtain ⟨A6, B6, c6, d6, (e6 : f 6 = _), h6, k6⟩ := hR 6 (by decide)
 have e9 : f 9 = _ := hR 9 (by decide)
 simp only [yA, yB, yD, yE, e6, e9]
 clear hR hal hap e6 e9
 refine Par.Chain.done ?_
 clear z0 z1 z2 z3 z4 z5
 replace hc2 := hX.at_ hc2
 replace hp3 := hX.at_ hp3
 replace HE := Lib.hid (HE.out.trans hX)
 replace Hn := Lib.hid (RN.up Hn.out hX)
 replace Hrc := Lib.hid (Hrc.out.ext hX)
 replace Hp := Lib.hid (Hp.out.ext hX)
 clear hX
 go_upto_region 7 with (go_at_call 39; refine (of_r 1 _ (by omega)).mono ?_; rintro e w5 ⟨A5, c5, rfl, h5, hE5⟩)
 have H5 := Lib.hid h5
 clear h5
 replace hc2 := hE5.at_ hc2
 replace hp3 := hE5.at_ hp3
 replace HE := Lib.hid (HE.out.trans hE5)
 replace Hn := Lib.hid (RN.up Hn.out hE5)
 replace Hrc := Lib.hid (Hrc.out.ext hE5)
 replace Hp := Lib.hid (Hp.out.ext hE5)
 clear hE5
 obtain ⟨z0, z1, z2, z3, z4, z5⟩ := six_facts hc2
 refine Par.region_sto (by kernel_rfl) 12 10 (.bool true) [0, 0, 2, 0, 14, 30, 0, 127, 255, 511, 511, 0, 3071, 8191] [11] (fun j f X => match j with
  | 0 => f 0 = .int .i64 c
  | 1 => f 1 = .pointer (some ⟨b2, 1, none⟩)
  | 2 => f 2 = .slice An (digs 4294967296 (val 18446744073709551616 C.nl)).length cn
  | 3 => f 3 = .slice A5 (digs 4294967296 1).length c5
  | 4 => ∃ A c, f 4 = .slice A (digs 4294967296 Nm).length c ∧ RU X A c (digs 4294967296 Nm)
  | 5 => ∃ A c, f 5 = .slice A (digs 18446744073709551616 Nm).length c ∧ RU X A c (digs 18446744073709551616 Nm)
  | 6 => f 6 = .agg #[.bool R.isNone, s1, s2]
  | 7 => ∃ o, f 7 = .tuple #[o, .bool true] ∧ APn X o T.isNone (digs 18446744073709551616 (T.elim 0 (·.1))) (digs 18446744073709551616 (T.elim 0 (·.2)))
  | 8 => ∃ o, f 8 = .tuple #[o, .bool true] ∧ APn X o T.isNone (digs 18446744073709551616 (T.elim 0 (·.1))) (digs 18446744073709551616 (T.elim 0 (·.2)))
  | 9 => ∃ o, f 9 = o ∧ APn X o T.isNone (digs 18446744073709551616 (T.elim 0 (·.1))) (digs 18446744073709551616 (T.elim 0 (·.2)))
  | 10 => f 10 = .bool true
  | 11 => ∃ b, f 11 = .pointer (some ⟨b, 0, none⟩) ∧ w5.heap.size ≤ b ∧ X.heap[b]? = some (.cells #[.bool false, .slice none 0 0, .slice none 0 0] 27 (0, 0))
  | _ => True) (fun f Y => ∃ (b : Nat) (x1 x2 : Value), f 11 = .pointer (some ⟨b, 0, none⟩) ∧ Ext w5 Y ∧ Y.heap[b]? = some (.cells #[.bool T.isNone, x1, x2] 27 (0, 0)) ∧ APn Y (.agg #[.bool T.isNone, x1, x2]) T.isNone (digs 18446744073709551616 (T.elim 0 (·.1))) (digs 18446744073709551616 (T.elim 0 (·.2)))) (by kernel_rfl) (by kernel_rfl) (fun _ _ => Iff.rfl) [(34, 0), (35, 1), (36, 2), (37, 3), (38, 4), (39, 5), (40, 6), (41, 7), (33, 8), (42, 9), (43, 10), (9, 11)] (by kernel_rfl) (by kernel_rfl) ?_
 refine Par.AllOps.cons 1 11 rfl rfl (Par.StepX.step rfl (Par.StepO.intro [(35, 1), (36, 2), (37, 3), (38, 4), (39, 5), (40, 6), (9, 11)] (by kernel_rfl) (fun f X hX hR K hK => ?_))) ?_
 · simp only [yA, yB, yC, yD, yE]
   refine ⟨?_⟩
   go_simp
   exact Par.k hK (s := by simp only [yA, yB, yC, yD, yE])
 refine Par.AllOps.cons 2 10 rfl rfl (Par.StepX.step rfl (Par.StepO.intro [(34, 0), (37, 3), (40, 6), (9, 11)] (by kernel_rfl) (fun f X hX hR K hK => ?_))) ?_
 · simp only [yA, yB, yC, yD, yE]
   refine ⟨?_⟩
   go_simp
   exact Par.k hK (s := by simp only [yA, yB, yC, yD, yE])
 refine Par.AllOps.cons 3 9 rfl rfl (Par.StepX.step rfl (Par.StepO.intro [(34, 0), (35, 1), (37, 3), (40, 6), (9, 11)] (by kernel_rfl) (fun f X hX hR K hK => ?_))) ?_
 · have e1 : f 1 = _ := hR.out 1 rfl
   have x0 := hX.cell z1
   simp only [yA, yB, yC, yD, yE, e1]
   refine ⟨?_⟩
   go_simp
   exact Par.k hK (s := by simp only [yA, yB, yC, yD, yE, e1])
 refine Par.AllOps.cons 4 8 rfl rfl (Par.StepX.step rfl (Par.StepO.intro [(34, 0), (35, 1), (36, 2), (40, 6), (9, 11)] (by kernel_rfl) (fun f X hX hR K hK => ?_))) ?_
 · simp only [yA, yB, yC, yD, yE]
   refine ⟨?_⟩
   go_simp
   exact Par.k hK (s := by simp only [yA, yB, yC, yD, yE])
 refine Par.AllOps.cons 5 7 rfl rfl (Par.StepX.step rfl (Par.StepO.intro [(34, 0), (35, 1), (36, 2), (37, 3), (40, 6), (9, 11)] (by kernel_rfl) (fun f X hX hR K hK => ?_))) ?_
 · have e2 : f 2 = _ := hR.out 2 rfl
   have e3 : f 3 = _ := hR.out 3 rfl
   simp only [yA, yB, yC, yD, yE, e2, e3]
   refine ⟨?_⟩
   go_simp
   refine (refSub_any _ _ An A5 cn c5 (val 18446744073709551616 C.nl) 1 X (RN.up Hn.out hX) (RN.up H5.out hX) (fun _ h => h) (fun _ h => h) HNl.out HN0.out).mono ?_
   rw [HNm.out]
   rintro e w2 ⟨A, c, rfl, h, hB⟩
   exact hK.out _ (.slice A (digs 4294967296 Nm).length c) _ (by simp only [yA, yB, yC, yD, yE, e2, e3]) hB trivial (fun Y hY => ⟨A, c, rfl, RN.up h.ru hY⟩)
 refine Par.AllOps.cons 6 6 rfl rfl (Par.StepX.step rfl (Par.StepO.intro [(34, 0), (35, 1), (36, 2), (37, 3), (38, 4), (40, 6), (9, 11)] (by kernel_rfl) (fun f X hX hR K hK => ?_))) ?_
 · obtain ⟨A4, c4, (e4 : f 4 = _), h4⟩ := hR.out 4 rfl
   simp only [yA, yB, yC, yD, yE, e4]
   refine ⟨?_⟩
   go_simp
   refine (to_any _ A4 c4 Nm X h4 (fun _ h => h)).mono ?_
   rintro e w2 ⟨A, c, rfl, h, hB⟩
   exact hK.out _ (.slice A (digs 18446744073709551616 Nm).length c) _ (by simp only [yA, yB, yC, yD, yE, e4]) hB trivial (fun Y hY => ⟨A, c, rfl, RN.up h.ru hY⟩)
 refine Par.AllOps.cons 7 5 rfl rfl (Par.StepX.step rfl (Par.StepO.intro [(34, 0), (35, 1), (36, 2), (37, 3), (38, 4), (39, 5), (9, 11)] (by kernel_rfl) (fun f X hX hR K hK => ?_))) ?_
 · simp only [yA, yB, yC, yD, yE]
   refine ⟨Par.want (by kernel_rfl) (wp_loadV (v := .agg #[.bool R.isNone, s1, s2]) (t := 27) 27 (.tmp 7) rfl rfl (hX.at_ hp3) Try.underlying27 rfl infoP rfl ?_)⟩
   exact Par.k hK (s := by simp only [yA, yB, yC, yD, yE])
 refine Par.AllOps.cons 8 4 rfl rfl (Par.StepX.step rfl (Par.StepO.intro [(34, 0), (35, 1), (36, 2), (37, 3), (38, 4), (39, 5), (40, 6), (9, 11)] (by kernel_rfl) (fun f X hX hR K hK => ?_))) ?_
 · have e0 : f 0 = _ := hR.out 0 rfl
   obtain ⟨A6, c6, (e5 : f 5 = _), h5⟩ := hR.out 5 rfl
   have e6 : f 6 = _ := hR.out 6 rfl
   simp only [yA, yB, yC, yD, yE, e0, e5, e6]
   refine ⟨?_⟩
   go_simp
   have hpt := (Hp.out.ext hX).pt
   rw [val_digs (by omega), val_digs (by omega)] at hpt
   refine (mul_c HC.out X hpt h5 (val_digs (by omega) _)).mono ?_
   rw [Ha1.out, show (some T).isSome = true from rfl, show (some T).join = T from rfl]
   rintro e w2 ⟨o, rfl, hv, hB⟩
   exact hK.out _ (.tuple #[o, .bool true]) _ (by simp only [yA, yB, yC, yD, yE, e0, e5, e6]) hB trivial (fun Y hY => ⟨o, rfl, hv.pn.ext hY⟩)
 refine Par.AllOps.cons 9 3 rfl rfl (Par.StepX.step rfl (Par.StepO.intro [(34, 0), (35, 1), (36, 2), (37, 3), (38, 4), (39, 5), (40, 6), (41, 7), (9, 11)] (by kernel_rfl) (fun f X hX hR K hK => ?_))) ?_
 · obtain ⟨o7, (e7 : f 7 = _), h7⟩ := hR.out 7 rfl
   simp only [yA, yB, yC, yD, yE, e7]
   refine ⟨?_⟩
   go_simp
   exact hK.out _ (.tuple #[o7, .bool true]) _ (by simp only [yA, yB, yC, yD, yE, e7]) (Ext.refl _) trivial (fun Y hY => ⟨o7, rfl, h7.ext hY⟩)
 refine Par.AllOps.cons 10 2 rfl rfl (Par.StepX.step rfl (Par.StepO.intro [(34, 0), (35, 1), (36, 2), (37, 3), (38, 4), (39, 5), (40, 6), (41, 7), (33, 8), (43, 10), (9, 11)] (by kernel_rfl) (fun f X hX hR K hK => ?_))) ?_
 · obtain ⟨o8, (e8 : f 8 = _), h8⟩ := hR.out 8 rfl
   simp only [yA, yB, yC, yD, yE, e8]
   refine ⟨?_⟩
   go_simp
   exact hK.out _ o8 _ (by simp only [yA, yB, yC, yD, yE, e8]) (Ext.refl _) trivial (fun Y hY => ⟨o8, rfl, h8.ext hY⟩)
 refine Par.AllOps.cons 11 1 rfl rfl (Par.StepX.pure (Par.PuO.intro [(34, 0), (35, 1), (36, 2), (37, 3), (38, 4), (39, 5), (40, 6), (41, 7), (33, 8), (42, 9), (9, 11)] (by kernel_rfl) (fun f X X1 hX hR K hK => ?_))) ?_
 · obtain ⟨o8, (e8 : f 8 = _), h8⟩ := hR.out 8 rfl
   simp only [yA, yB, yC, yD, yE, e8]
   refine ⟨?_⟩
   go_simp
   exact Par.pu_end hK (by simp only [yA, yB, yC, yD, yE, e8])
 refine Par.AllOps.cons 12 0 rfl rfl (Par.StepX.step rfl (Par.StepO.intro [(34, 0), (35, 1), (36, 2), (37, 3), (38, 4), (39, 5), (40, 6), (41, 7), (33, 8), (42, 9), (43, 10)] (by kernel_rfl) (fun f X hX hR K hK => ?_))) ?_
 · simp only [yA, yB, yC, yD, yE]
   refine ⟨?_⟩
   go_simp
   exact hK.out _ _ _ (by simp only [yA, yB, yC, yD, yE]) (Ext.alloc _ _) ⟨rfl, by simp⟩ (fun Y hY => ⟨_, rfl, hX.bsize, hY.at_ (heap_alloc_new _ _)⟩)
 refine Par.AllOps.fin (Par.FinS.intro (fun f X hX hR hal K hK => ?_) (fun f Ym hfu hS => ?_))
 · obtain ⟨o9, (e9 : f 9 = _), h9⟩ := hR.out 9 rfl
   obtain ⟨bm11, (e11 : f 11 = _), lm11, hm11⟩ := hR.out 11 rfl
   simp only [yA, yB, yD, yE, e9, e11]
   obtain ⟨A, B, k, kk, rfl, hu, hv⟩ := h9
   refine ⟨Par.want (by kernel_rfl) (wp_storeV (cs' := #[.bool T.isNone, .slice A (digs 18446744073709551616 (T.elim 0 (·.1))).length k, .slice B (digs 18446744073709551616 (T.elim 0 (·.2))).length kk]) (t := 27) 27 (.tmp 9) (.tmp 42) rfl rfl rfl rfl hm11 infoP rfl (pt_one _ _ _ _ _ _ _) (fun Y h1 h2 h3 => ?_))⟩
   refine Par.sto_end hK (by simp only [yA, yB, yD, yE, e9, e11]) ⟨_, _, _, e11, h2.ext hX lm11, h1, ⟨A, B, k, kk, rfl, hu.offJ h2 hm11 (by kernel_rfl), hv.offJ h2 hm11 (by kernel_rfl)⟩⟩
 obtain ⟨bm, sm1, sm2, e11, hEm, hbm, hqm⟩ : ∃ (b : Nat) (x1 x2 : Value), f 11 = .pointer (some ⟨b, 0, none⟩) ∧ Ext w5 Ym ∧ Ym.heap[b]? = some (.cells #[.bool T.isNone, x1, x2] 27 (0, 0)) ∧ APn Ym (.agg #[.bool T.isNone, x1, x2]) T.isNone (digs 18446744073709551616 (T.elim 0 (·.1))) (digs 18446744073709551616 (T.elim 0 (·.2))) := hS
 simp only [yA, yB, yD, yE, hfu, e11]
 clear hfu e11
 refine Par.Chain.next (fun K hK => ⟨Par.want (by kernel_rfl) ?_⟩)
 go_simp
 refine hK.out _ _ ?_
 refine Par.Chain.done ?_
 clear z0 z1 z2 z3 z4 z5
 replace hc2 := hEm.at_ hc2
 replace hp3 := hEm.at_ hp3
 replace HE := Lib.hid (HE.out.trans hEm)
 replace Hn := Lib.hid (RN.up Hn.out hEm)
 replace Hrc := Lib.hid (Hrc.out.ext hEm)
 replace Hp := Lib.hid (Hp.out.ext hEm)
 replace H5 := Lib.hid (RN.up H5.out hEm)
 have Hm := Lib.hid hqm
 clear hEm hqm
 go_upto_region 8 with fail
 obtain ⟨z0, z1, z2, z3, z4, z5⟩ := six_facts hc2
 refine Par.region_sto (by kernel_rfl) 12 10 (.bool true) [0, 0, 2, 0, 14, 30, 0, 127, 255, 511, 511, 0, 3071, 8191] [11] (fun j f X => match j with
  | 0 => f 0 = .int .i64 c
  | 1 => f 1 = .pointer (some ⟨b2, 1, none⟩)
  | 2 => f 2 = .slice An (digs 4294967296 (val 18446744073709551616 C.nl)).length cn
  | 3 => f 3 = .slice A5 (digs 4294967296 1).length c5
  | 4 => ∃ A c, f 4 = .slice A (digs 4294967296 Np).length c ∧ RU X A c (digs 4294967296 Np)
  | 5 => ∃ A c, f 5 = .slice A (digs 18446744073709551616 Np).length c ∧ RU X A c (digs 18446744073709551616 Np)
  | 6 => f 6 = .agg #[.bool R.isNone, s1, s2]
  | 7 => ∃ o, f 7 = .tuple #[o, .bool true] ∧ APn X o R.isNone (digs 18446744073709551616 (R.elim 0 (·.1))) (digs 18446744073709551616 (R.elim 0 (·.2)))
  | 8 => ∃ o, f 8 = .tuple #[o, .bool true] ∧ APn X o R.isNone (digs 18446744073709551616 (R.elim 0 (·.1))) (digs 18446744073709551616 (R.elim 0 (·.2)))
  | 9 => ∃ o, f 9 = o ∧ APn X o R.isNone (digs 18446744073709551616 (R.elim 0 (·.1))) (digs 18446744073709551616 (R.elim 0 (·.2)))
  | 10 => f 10 = .bool true
  | 11 => ∃ b, f 11 = .pointer (some ⟨b, 0, none⟩) ∧ Ym.heap.size ≤ b ∧ X.heap[b]? = some (.cells #[.bool false, .slice none 0 0, .slice none 0 0] 27 (0, 0))
  | _ => True) (fun f Y => ∃ (b : Nat) (x1 x2 : Value), f 11 = .pointer (some ⟨b, 0, none⟩) ∧ Ext Ym Y ∧ Y.heap[b]? = some (.cells #[.bool R.isNone, x1, x2] 27 (0, 0)) ∧ APn Y (.agg #[.bool R.isNone, x1, x2]) R.isNone (digs 18446744073709551616 (R.elim 0 (·.1))) (digs 18446744073709551616 (R.elim 0 (·.2)))) (by kernel_rfl) (by kernel_rfl) (fun _ _ => Iff.rfl) [(45, 0), (46, 1), (47, 2), (48, 3), (49, 4), (50, 5), (51, 6), (52, 7), (44, 8), (53, 9), (54, 10), (11, 11)] (by kernel_rfl) (by kernel_rfl) ?_
 refine Par.AllOps.cons 1 11 rfl rfl (Par.StepX.step rfl (Par.StepO.intro [(46, 1), (47, 2), (48, 3), (49, 4), (50, 5), (51, 6), (11, 11)] (by kernel_rfl) (fun f X hX hR K hK => ?_))) ?_
 · simp only [yA, yB, yC, yD, yE]
   refine ⟨?_⟩
   go_simp
   exact Par.k hK (s := by simp only [yA, yB, yC, yD, yE])
 refine Par.AllOps.cons 2 10 rfl rfl (Par.StepX.step rfl (Par.StepO.intro [(45, 0), (48, 3), (51, 6), (11, 11)] (by kernel_rfl) (fun f X hX hR K hK => ?_))) ?_
 · simp only [yA, yB, yC, yD, yE]
   refine ⟨?_⟩
   go_simp
   exact Par.k hK (s := by simp only [yA, yB, yC, yD, yE])
 refine Par.AllOps.cons 3 9 rfl rfl (Par.StepX.step rfl (Par.StepO.intro [(45, 0), (46, 1), (48, 3), (51, 6), (11, 11)] (by kernel_rfl) (fun f X hX hR K hK => ?_))) ?_
 · have e1 : f 1 = _ := hR.out 1 rfl
   have x0 := hX.cell z1
   simp only [yA, yB, yC, yD, yE, e1]
   refine ⟨?_⟩
   go_simp
   exact Par.k hK (s := by simp only [yA, yB, yC, yD, yE, e1])
 refine Par.AllOps.cons 4 8 rfl rfl (Par.StepX.step rfl (Par.StepO.intro [(45, 0), (46, 1), (47, 2), (51, 6), (11, 11)] (by kernel_rfl) (fun f X hX hR K hK => ?_))) ?_
 · simp only [yA, yB, yC, yD, yE]
   refine ⟨?_⟩
   go_simp
   exact Par.k hK (s := by simp only [yA, yB, yC, yD, yE])
 refine Par.AllOps.cons 5 7 rfl rfl (Par.StepX.step rfl (Par.StepO.intro [(45, 0), (46, 1), (47, 2), (48, 3), (51, 6), (11, 11)] (by kernel_rfl) (fun f X hX hR K hK => ?_))) ?_
 · have e2 : f 2 = _ := hR.out 2 rfl
   have e3 : f 3 = _ := hR.out 3 rfl
   simp only [yA, yB, yC, yD, yE, e2, e3]
   refine ⟨?_⟩
   go_simp
   refine (refAdd_any _ _ An A5 cn c5 (val 18446744073709551616 C.nl) 1 X (RN.up Hn.out hX) (RN.up H5.out hX) (fun _ h => h) (fun _ h => h) HNl.out (Nat.lt_of_le_of_lt (digs_length_of_lt (n := 1) (by omega) (by omega)) (by omega))).mono ?_
   rw [HNp.out]
   rintro e w2 ⟨A, c, rfl, h, hB⟩
   exact hK.out _ (.slice A (digs 4294967296 Np).length c) _ (by simp only [yA, yB, yC, yD, yE, e2, e3]) hB trivial (fun Y hY => ⟨A, c, rfl, RN.up h.ru hY⟩)
 refine Par.AllOps.cons 6 6 rfl rfl (Par.StepX.step rfl (Par.StepO.intro [(45, 0), (46, 1), (47, 2), (48, 3), (49, 4), (51, 6), (11, 11)] (by kernel_rfl) (fun f X hX hR K hK => ?_))) ?_
 · obtain ⟨A4, c4, (e4 : f 4 = _), h4⟩ := hR.out 4 rfl
   simp only [yA, yB, yC, yD, yE, e4]
   refine ⟨?_⟩
   go_simp
   refine (to_any _ A4 c4 Np X h4 (fun _ h => h)).mono ?_
   rintro e w2 ⟨A, c, rfl, h, hB⟩
   exact hK.out _ (.slice A (digs 18446744073709551616 Np).length c) _ (by simp only [yA, yB, yC, yD, yE, e4]) hB trivial (fun Y hY => ⟨A, c, rfl, RN.up h.ru hY⟩)
 refine Par.AllOps.cons 7 5 rfl rfl (Par.StepX.step rfl (Par.StepO.intro [(45, 0), (46, 1), (47, 2), (48, 3), (49, 4), (50, 5), (11, 11)] (by kernel_rfl) (fun f X hX hR K hK => ?_))) ?_
 · simp only [yA, yB, yC, yD, yE]
   refine ⟨Par.want (by kernel_rfl) (wp_loadV (v := .agg #[.bool R.isNone, s1, s2]) (t := 27) 27 (.tmp 7) rfl rfl (hX.at_ hp3) Try.underlying27 rfl infoP rfl ?_)⟩
   exact Par.k hK (s := by simp only [yA, yB, yC, yD, yE])
 refine Par.AllOps.cons 8 4 rfl rfl (Par.StepX.step rfl (Par.StepO.intro [(45, 0), (46, 1), (47, 2), (48, 3), (49, 4), (50, 5), (51, 6), (11, 11)] (by kernel_rfl) (fun f X hX hR K hK => ?_))) ?_
 · have e0 : f 0 = _ := hR.out 0 rfl
   obtain ⟨A6, c6, (e5 : f 5 = _), h5⟩ := hR.out 5 rfl
   have e6 : f 6 = _ := hR.out 6 rfl
   simp only [yA, yB, yC, yD, yE, e0, e5, e6]
   refine ⟨?_⟩
   go_simp
   have hpt := (Hp.out.ext hX).pt
   rw [val_digs (by omega), val_digs (by omega)] at hpt
   refine (mul_c HC.out X hpt h5 (val_digs (by omega) _)).mono ?_
   rw [Ha2.out, show (some R).isSome = true from rfl, show (some R).join = R from rfl]
   rintro e w2 ⟨o, rfl, hv, hB⟩
   exact hK.out _ (.tuple #[o, .bool true]) _ (by simp only [yA, yB, yC, yD, yE, e0, e5, e6]) hB trivial (fun Y hY => ⟨o, rfl, hv.pn.ext hY⟩)
 refine Par.AllOps.cons 9 3 rfl rfl (Par.StepX.step rfl (Par.StepO.intro [(45, 0), (46, 1), (47, 2), (48, 3), (49, 4), (50, 5), (51, 6), (52, 7), (11, 11)] (by kernel_rfl) (fun f X hX hR K hK => ?_))) ?_
 · obtain ⟨o7, (e7 : f 7 = _), h7⟩ := hR.out 7 rfl
   simp only [yA, yB, yC, yD, yE, e7]
   refine ⟨?_⟩
   go_simp
   exact hK.out _ (.tuple #[o7, .bool true]) _ (by simp only [yA, yB, yC, yD, yE, e7]) (Ext.refl _) trivial (fun Y hY => ⟨o7, rfl, h7.ext hY⟩)
 refine Par.AllOps.cons 10 2 rfl rfl (Par.StepX.step rfl (Par.StepO.intro [(45, 0), (46, 1), (47, 2), (48, 3), (49, 4), (50, 5), (51, 6), (52, 7), (44, 8), (54, 10), (11, 11)] (by kernel_rfl) (fun f X hX hR K hK => ?_))) ?_
 · obtain ⟨o8, (e8 : f 8 = _), h8⟩ := hR.out 8 rfl
   simp only [yA, yB, yC, yD, yE, e8]
   refine ⟨?_⟩
   go_simp
   exact hK.out _ o8 _ (by simp only [yA, yB, yC, yD, yE, e8]) (Ext.refl _) trivial (fun Y hY => ⟨o8, rfl, h8.ext hY⟩)
 refine Par.AllOps.cons 11 1 rfl rfl (Par.StepX.pure (Par.PuO.intro [(45, 0), (46, 1), (47, 2), (48, 3), (49, 4), (50, 5), (51, 6), (52, 7), (44, 8), (53, 9), (11, 11)] (by kernel_rfl) (fun f X X1 hX hR K hK => ?_))) ?_
 · obtain ⟨o8, (e8 : f 8 = _), h8⟩ := hR.out 8 rfl
   simp only [yA, yB, yC, yD, yE, e8]
   refine ⟨?_⟩
   go_simp
   exact Par.pu_end hK (by simp only [yA, yB, yC, yD, yE, e8])
 refine Par.AllOps.cons 12 0 rfl rfl (Par.StepX.step rfl (Par.StepO.intro [(45, 0), (46, 1), (47, 2), (48, 3), (49, 4), (50, 5), (51, 6), (52, 7), (44, 8), (53, 9), (54, 10)] (by kernel_rfl) (fun f X hX hR K hK => ?_))) ?_
 · simp only [yA, yB, yC, yD, yE]
   refine ⟨?_⟩
   go_simp
   exact hK.out _ _ _ (by simp only [yA, yB, yC, yD, yE]) (Ext.alloc _ _) ⟨rfl, by simp⟩ (fun Y hY => ⟨_, rfl, hX.bsize, hY.at_ (heap_alloc_new _ _)⟩)
 refine Par.AllOps.fin (Par.FinS.intro (fun f X hX hR hal K hK => ?_) (fun f Yq hfu hS => ?_))
 · obtain ⟨o9, (e9 : f 9 = _), h9⟩ := hR.out 9 rfl
   obtain ⟨bq11, (e11 : f 11 = _), lq11, hq11⟩ := hR.out 11 rfl
   simp only [yA, yB, yD, yE, e9, e11]
   obtain ⟨A, B, k, kk, rfl, hu, hv⟩ := h9
   refine ⟨Par.want (by kernel_rfl) (wp_storeV (cs' := #[.bool R.isNone, .slice A (digs 18446744073709551616 (R.elim 0 (·.1))).length k, .slice B (digs 18446744073709551616 (R.elim 0 (·.2))).length kk]) (t := 27) 27 (.tmp 11) (.tmp 53) rfl rfl rfl rfl hq11 infoP rfl (pt_one _ _ _ _ _ _ _) (fun Y h1 h2 h3 => ?_))⟩
   refine Par.sto_end hK (by simp only [yA, yB, yD, yE, e9, e11]) ⟨_, _, _, e11, h2.ext hX lq11, h1, ⟨A, B, k, kk, rfl, hu.offJ h2 hq11 (by kernel_rfl), hv.offJ h2 hq11 (by kernel_rfl)⟩⟩
 obtain ⟨bq, sq1, sq2, e11, hEq, hbq, hqq⟩ : ∃ (b : Nat) (x1 x2 : Value), f 11 = .pointer (some ⟨b, 0, none⟩) ∧ Ext Ym Yq ∧ Yq.heap[b]? = some (.cells #[.bool R.isNone, x1, x2] 27 (0, 0)) ∧ APn Yq (.agg #[.bool R.isNone, x1, x2]) R.isNone (digs 18446744073709551616 (R.elim 0 (·.1))) (digs 18446744073709551616 (R.elim 0 (·.2))) := hS
 simp only [yA, yB, yD, yE, hfu, e11]
 clear hfu e11
 refine Par.Chain.next (fun K hK => ⟨Par.want (by kernel_rfl) ?_⟩)
 go_simp
 refine hK.out _ _ ?_
 refine Par.Chain.done ?_
 clear z0 z1 z2 z3 z4 z5
 replace hp3 := hEq.at_ hp3
 replace hbm := hEq.at_ hbm
 replace HE := Lib.hid (HE.out.trans hEq)
 replace Hn := Lib.hid (RN.up Hn.out hEq)
 replace Hrc := Lib.hid (Hrc.out.ext hEq)
 replace Hp := Lib.hid (Hp.out.ext hEq)
 replace H5 := Lib.hid (RN.up H5.out hEq)
 replace Hm := Lib.hid (Hm.out.ext hEq)
 have Hq := Lib.hid hqq
 clear hEq hqq hc2
 obtain ⟨y0, y1, y2, f0, f1, f2⟩ := pt_facts hp3
 have Hpt := Lib.hid Hp.out.pt
 rw [val_digs (by omega), val_digs (by omega)] at Hpt
 go_upto_region 10 with (go_at_call 36; refine (neg_c HC.out _ Hpt.out).mono ?_; rw [Ha3.out]; rintro e w9 ⟨o, rfl, hv9, hE9⟩; obtain ⟨A9, B9, c9, d9, rfl, hx9, hy9⟩ := hv9.pn; rw [show (some T).join = T from rfl] at hx9 hy9)
 clear y0 y1 y2 f0 f1 f2 hv9 Hpt
 have Hn9 := Lib.hid (show APn w9 (.agg #[.bool T.isNone, .slice A9 (digs 18446744073709551616 (T.elim 0 (·.1))).length c9, .slice B9 (digs 18446744073709551616 (T.elim 0 (·.2))).length d9]) T.isNone (digs 18446744073709551616 (T.elim 0 (·.1))) (digs 18446744073709551616 (T.elim 0 (·.2))) from ⟨A9, B9, c9, d9, rfl, hx9, hy9⟩)
 clear hx9 hy9
 replace hp3 := hE9.at_ hp3
 replace hbm := hE9.at_ hbm
 replace hbq := hE9.at_ hbq
 replace HE := Lib.hid (HE.out.trans hE9)
 replace Hn := Lib.hid (RN.up Hn.out hE9)
 replace Hrc := Lib.hid (Hrc.out.ext hE9)
 replace Hp := Lib.hid (Hp.out.ext hE9)
 replace H5 := Lib.hid (RN.up H5.out hE9)
 replace Hm := Lib.hid (Hm.out.ext hE9)
 replace Hq := Lib.hid (Hq.out.ext hE9)
 clear hE9
 generalize Value.slice A9 (digs 18446744073709551616 (T.elim 0 (·.1))).length c9 = s91 at *
 generalize Value.slice B9 (digs 18446744073709551616 (T.elim 0 (·.2))).length d9 = s92 at *
 have hp9 := heap_alloc_new w9 (.cells #[.bool T.isNone, s91, s92] 27)
 have hA := Ext.alloc w9 (.cells #[.bool T.isNone, s91, s92] 27)
 replace hp3 := hA.at_ hp3
 replace hbm := hA.at_ hbm
 replace hbq := hA.at_ hbq
 replace HE := Lib.hid (HE.out.trans hA)
 replace Hn := Lib.hid (RN.up Hn.out hA)
 replace Hrc := Lib.hid (Hrc.out.ext hA)
 replace Hp := Lib.hid (Hp.out.ext hA)
 replace H5 := Lib.hid (RN.up H5.out hA)
 replace Hm := Lib.hid (Hm.out.ext hA)
 replace Hq := Lib.hid (Hq.out.ext hA)
 replace Hn9 := Lib.hid (Hn9.out.ext hA)
 generalize hV : w9.alloc (.cells #[.bool T.isNone, s91, s92] 27) = V9 at *
 obtain ⟨b9, hq⟩ : ∃ b, w9.heap.size = b := ⟨_, rfl⟩
 rw [hq] at hp9 ⊢
 clear hV hq hA
 refine Par.region_ext (by kernel_rfl) 23 [0, 1, 3, 7, 15, 31, 63, 127, 255, 511, 1023, 2047, 2047, 6143, 16383, 32767, 65535, 131071, 131071, 393215, 1048575, 2097151, 4194303] [] (fun j f X => match j with
  | 0 => f 0 = .bool true
  | 1 => f 1 = .bool true
  | 2 => f 2 = .bool true
  | 3 => f 3 = .bool true
  | 4 => f 4 = .bool true
  | 5 => f 5 = .bool true
  | 6 => f 6 = .bool true
  | 7 => f 7 = .bool true
  | 8 => f 8 = .bool true
  | 9 => f 9 = .bool true
  | 10 => f 10 = .bool true
  | 11 => f 11 = .agg #[.bool T.isNone, sm1, sm2]
  | 12 => f 12 = .agg #[.bool T.isNone, s91, s92]
  | 13 => ∃ o, f 13 = o ∧ RPv X o T.isNone (T.elim 0 (·.1)) (T.elim 0 (·.2))
  | 14 => f 14 = .bool true
  | 15 => f 15 = .bool true
  | 16 => f 16 = .bool true
  | 17 => f 17 = .agg #[.bool R.isNone, sq1, sq2]
  | 18 => f 18 = .agg #[.bool R.isNone, s1, s2]
  | 19 => ∃ o, f 19 = o ∧ RPv X o R.isNone (R.elim 0 (·.1)) (R.elim 0 (·.2))
  | 20 => f 20 = .bool true
  | 21 => f 21 = .bool true
  | 22 => f 22 = .bool true
  | _ => True) (by kernel_rfl) [(61, 0), (62, 1), (63, 2), (64, 3), (65, 4), (66, 5), (67, 6), (68, 7), (69, 8), (70, 9), (71, 10), (72, 11), (73, 12), (74, 13), (75, 14), (76, 15), (77, 16), (78, 17), (79, 18), (80, 19), (81, 20), (82, 21), (4, 22)] (by kernel_rfl) ?_
 refine Par.v0 1 22 ?_
 refine Par.v1 2 21 0 ?_
 refine Par.v1 3 20 1 ?_
 refine Par.v2 4 19 1 2 ?_
 refine Par.v1 5 18 3 ?_
 refine Par.v1 6 17 4 ?_
 refine Par.v2 7 16 4 5 ?_
 refine Par.v1 8 15 6 ?_
 refine Par.v1 9 14 7 ?_
 refine Par.v2 10 13 7 8 ?_
 refine Par.v1 11 12 9 ?_
 refine lV1 12 11 10 hbm infoP ?_
 refine lV1 13 10 10 hp9 infoP ?_
 refine Par.c1 14 9 10 (fun f => #[f 12]) (F' := 14) (fun f X hX hR => ?_) ?_
 · have e12 : f 12 = _ := hR.out 12 rfl
   simp only [e12]
   refine (rfrom_n X (Hn9.out.ext hX) HTm.out.1 HTm.out.2).mono ?_
   rw [HTv.out.1, HTv.out.2]
   rintro e w2 ⟨o, rfl, h, hB⟩
   exact ⟨o, rfl, hB, fun Y hY => ⟨o, rfl, h.ext hY⟩⟩
 refine Par.c1 15 8 10 (fun f => #[f 11, f 13]) (F' := 17) (fun f X hX hR => ?_) ?_
 · have e11 : f 11 = _ := hR.out 11 rfl
   obtain ⟨o13, (e13 : f 13 = _), h13⟩ := hR.out 13 rfl
   simp only [e11, e13]
   refine (ris_n X (Hm.out.ext hX) h13).mono ?_
   rintro e w2 ⟨he, hB⟩
   simp only [beq_self_eq_true, decide_true, Bool.and_self] at he
   subst he
   exact ⟨_, rfl, hB, fun _ _ => rfl⟩
 refine Par.v2 16 7 10 14 ?_
 refine Par.v1 17 6 15 ?_
 refine lV1 18 5 16 hbq infoP ?_
 refine lV1 19 4 16 hp3 infoP ?_
 refine Par.c1 20 3 16 (fun f => #[f 18]) (F' := 14) (fun f X hX hR => ?_) ?_
 · have e18 : f 18 = _ := hR.out 18 rfl
   simp only [e18]
   refine (rfrom_n X (Hp.out.ext hX) HRm.out.1 HRm.out.2).mono ?_
   rw [HRv.out.1, HRv.out.2]
   rintro e w2 ⟨o, rfl, h, hB⟩
   exact ⟨o, rfl, hB, fun Y hY => ⟨o, rfl, h.ext hY⟩⟩
 refine Par.c1 21 2 16 (fun f => #[f 17, f 19]) (F' := 17) (fun f X hX hR => ?_) ?_
 · have e17 : f 17 = _ := hR.out 17 rfl
   obtain ⟨o19, (e19 : f 19 = _), h19⟩ := hR.out 19 rfl
   simp only [e17, e19]
   refine (ris_n X (Hq.out.ext hX) h19).mono ?_
   rintro e w2 ⟨he, hB⟩
   simp only [beq_self_eq_true, decide_true, Bool.and_self] at he
   subst he
   exact ⟨_, rfl, hB, fun _ _ => rfl⟩
 refine Par.v2 22 1 16 20 ?_
 refine Par.v1 23 0 21 ?_
 refine Par.AllOps.fin ⟨fun f X hX hR hal hap => ?_⟩
 obtain ⟨o13, (e13 : f 13 = _), h13⟩ := hR 13 (by decide)
 obtain ⟨o19, (e19 : f 19 = _), h19⟩ := hR 19 (by decide)
 have e22 : f 22 = _ := hR 22 (by decide)
 simp only [yA, yB, yD, yE, e13, e19, e22]
 clear hR hal hap e13 e19 e22
 refine Par.Chain.done ?_
 go_wp2
 go_ret
 exact ⟨rfl, HE.out.trans hX⟩
set_option maxRecDepth 100000 in
set_option maxHeartbeats 8000000 in
theorem ord_law_n {c : Int} (g1 : c ≠ 1) (g2 : c ≠ 2) {P : Nat → Prop} {A : Option Addr} {cap : Nat} {l : List Nat} (w : World) (ha : RL w P A cap l) (hP : ∀ b, P b → b < w.heap.size) :
 Calls Try.prog 9 #[.int .i64 c, .slice A l.length cap] w fun e w' => e = .returned (.bool true) ∧ Ext w w' := by
 have HA := Lib.hid ha
 have HP := Lib.hid hP
 clear ha hP
 go_enter Try.func9, Try.ntmps9
 go_upto_region 2 with (go_at_call 10; refine (begun9_any _).mono ?_; rintro e w1 ⟨rfl, hE1⟩)
 go_upto_region 3 with (go_at_call 13; refine (refOf_none g1 g2 _).mono ?_; rintro e w2 ⟨v, rfl, ⟨Ap, An, Ab, Ax, Ay, cp, cn, cb, cx, cy, rfl, hp, hn, hb, hx, hy⟩, hE2⟩)
 have HE := Lib.hid (hE1.trans hE2)
 clear hp hn hb hx hy hE1 hE2
 have hc2 := heap_alloc_new w2 (.cells #[.slice Ap (digs 4294967296 c0.M).length cp, .slice An (digs 4294967296 (val 18446744073709551616 c0.nl)).length cn, .slice Ab (digs 4294967296 c0.bb).length cb, .slice Ax (digs 4294967296 (val 18446744073709551616 c0.xl)).length cx, .slice Ay (digs 4294967296 (val 18446744073709551616 c0.yl)).length cy, .int .i64 (c0.size : Int)] 31)
 have hA := Ext.alloc w2 (.cells #[.slice Ap (digs 4294967296 c0.M).length cp, .slice An (digs 4294967296 (val 18446744073709551616 c0.nl)).length cn, .slice Ab (digs 4294967296 c0.bb).length cb, .slice Ax (digs 4294967296 (val 18446744073709551616 c0.xl)).length cx, .slice Ay (digs 4294967296 (val 18446744073709551616 c0.yl)).length cy, .int .i64 (c0.size : Int)] 31)
 replace HE := Lib.hid (HE.out.trans hA)
 generalize hV : w2.alloc (.cells #[.slice Ap (digs 4294967296 c0.M).length cp, .slice An (digs 4294967296 (val 18446744073709551616 c0.nl)).length cn, .slice Ab (digs 4294967296 c0.bb).length cb, .slice Ax (digs 4294967296 (val 18446744073709551616 c0.xl)).length cx, .slice Ay (digs 4294967296 (val 18446744073709551616 c0.yl)).length cy, .int .i64 (c0.size : Int)] 31) = V2 at *
 obtain ⟨b2, hq⟩ : ∃ b, w2.heap.size = b := ⟨_, rfl⟩
 rw [hq] at hc2 ⊢
 clear hV hq hA
 rw [show c0.size = 0 by rfl] at hc2
 go_upto_region 4 with (go_at_call 12; refine (point_none g1 g2 A l.length cap false _).mono ?_; rintro e w3 ⟨rfl, hE3⟩)
 replace hc2 := hE3.at_ hc2
 replace HE := Lib.hid (HE.out.trans hE3)
 clear hE3
 have hp3 := heap_alloc_new w3 (.cells #[.bool false, .slice A l.length cap, .slice A l.length cap] 27)
 have hA := Ext.alloc w3 (.cells #[.bool false, .slice A l.length cap, .slice A l.length cap] 27)
 replace hc2 := hA.at_ hc2
 replace HE := Lib.hid (HE.out.trans hA)
 generalize hV : w3.alloc (.cells #[.bool false, .slice A l.length cap, .slice A l.length cap] 27) = V3 at *
 obtain ⟨b3, hq⟩ : ∃ b, w3.heap.size = b := ⟨_, rfl⟩
 rw [hq] at hp3 ⊢
 clear hV hq hA
 obtain ⟨z0, z1, z2, z3, z4, z5⟩ := six_facts hc2
 refine Par.region_ext (by kernel_rfl) 10 [0, 1, 3, 7, 15, 15, 47, 127, 255, 511] [] (fun j f X => match j with
  | 0 => f 0 = .pointer (some ⟨b2, 5, none⟩)
  | 1 => f 1 = .int .i64 0
  | 2 => f 2 = .bool true
  | 3 => f 3 = .bool true
  | 4 => f 4 = undef
  | 5 => f 5 = undef
  | 6 => f 6 = undef
  | 7 => f 7 = undef
  | 8 => f 8 = undef
  | 9 => f 9 = .bool true
  | _ => True) (by kernel_rfl) [(21, 0), (22, 1), (23, 2), (24, 3), (25, 4), (26, 5), (27, 6), (28, 7), (29, 8), (30, 9)] (by kernel_rfl) ?_
 refine Par.v0 1 9 ?_
 refine Par.ld1 2 8 0 z5 ?_
 refine Par.v1 3 7 1 ?_
 refine Par.v1 4 6 2 ?_
 refine Par.sk 5 5 3 ?_
 refine Par.sk 6 4 3 ?_
 refine Par.sk 7 3 3 ?_
 refine Par.sk 8 2 3 ?_
 refine Par.sk 9 1 3 ?_
 refine Par.v2 10 0 3 8 ?_
 refine Par.AllOps.fin ⟨fun f X hX hR hal hap => ?_⟩
 have e9 : f 9 = _ := hR 9 (by decide)
 simp only [yA, yB, yD, yE, e9]
 clear hR hal hap e9
 refine Par.Chain.done ?_
 go_wp2
 go_ret
 exact ⟨rfl, HE.out.trans hX⟩
theorem ord_law {c : Int} {P : Nat → Prop} {A : Option Addr} {cap : Nat} {l : List Nat} (w : World) (ha : RL w P A cap l) (hP : ∀ b, P b → b < w.heap.size) :
 Calls Try.prog 9 #[.int .i64 c, .slice A l.length cap] w fun e w' => e = .returned (.bool true) ∧ Ext w w' := by
 obtain ⟨C, h | ⟨h1, h2, _⟩⟩ := isU c
 · exact ord_law_c h w ha hP
 · exact ord_law_n h1 h2 w ha hP
end Go.Proofs.Ytldhmjfjbalakaa

namespace Go.Proofs.Ytldhmjfjbalakaa.curveOrder
open Go.ChangeShapes Go.WideShapes Go.ChangeAt Go.RowKit

theorem own : ownKnob Try.prog.godebug = none := by kernel_rfl
theorem laidOut : laidOutB Try.prog = true := by kernel_rfl

set_option maxRecDepth 100000 in
theorem lifted (os : Os) (started : os.Started) (H : Type) (enc : TypeId × Value → H) :
 ReturnsInHanded {} Try.checked os 9 .any (Rows.curveOrderSpec.pre6 enc Try.prog Try.f9 Rows.curveOrderRow.domain false) (Rows.curveOrderSpec.post enc Try.prog Try.f9 false true false false) := by
 refine returnsInHanded_of_change_sized (C := Try.checked) own started (by kernel_rfl) Try.func9
  (ChangeSpec.witness6 (enc := enc) (C := Try.checked) false ⟨#[], #[.int .i64 0, .slice none 0 0], []⟩ 8 (by kernel_rfl) (by kernel_rfl) (by kernel_rfl) (by kernel_rfl)) ?_
 intro W base args ds gs before hval0 hW hcnd hsz0 _
 have hval : ∀ (j : Nat) t v, Try.f9.params[j]? = some t → args[j]? = some v → Value.okWide Try.prog W .any base t v := hval0
 have hsz : (DataW.weightsEach Try.prog (Try.f9.params.toList ++ Rows.curveOrderSpec.plain.varTypes Try.prog) (ds ++ gs)).all (· ≤ reachBytes) = true := hsz0
 have hW' := hW
 obtain ⟨p, q, hA0, hV, rfl, hfz, hnd⟩ := hW
 have hA : DataW.TrodAll enc Try.prog W 0 (fun _ => true) true Try.f9.params.toList args.toList ds p := hA0
 rw [Try.params9] at hA hval hsz
 obtain ⟨v0, vs0, d0, ds0, p0, q0, hargs, rfl, rfl, h0, r0⟩ := trodAll_cons hA
 obtain ⟨v1, vs1, d1, ds1, p1, q1, rfl, rfl, rfl, h1, r1⟩ := trodAll_cons r0
 obtain ⟨rfl, rfl, rfl⟩ := trodAll_nil r1
 obtain rfl : args = #[v0, v1] := by cases args; simp_all
 obtain ⟨rfl, rfl⟩ := trodVars_none hV
 have k0 := h0
 have lt0 : ∀ x ∈ p0, x.block < W.heap.size := by obtain ⟨m, hm⟩ := k0; exact DataW.trod_lt m _ _ _ hm
 have k1 := h1
 have lt1 : ∀ x ∈ p1, x.block < W.heap.size := by obtain ⟨m, hm⟩ := k1; exact DataW.trod_lt m _ _ _ hm
 have fit : ∀ (j : Nat) (t : TypeId) (d : DataW H), [3, 23][j]? = some t → [d0, d1][j]? = some d → Fits t d := fun j t d ht hd k hk => by
  have := List.all_eq_true.1 hsz k (DataW.weights_mem_each (ts := [3, 23]) (ds := [d0, d1]) ht hd k hk)
  simpa using this
 obtain ⟨n0, hv0, _, _, wf0⟩ := open_int Try.underlying3 (hval 0 3 v0 rfl rfl) h0
 obtain ⟨a1, len1, cap1, e1⟩ := okWide_slice Try.underlying23 (hval 1 23 v1 rfl rfl)
 obtain ⟨A1, c1, l1, hv1, hR1⟩ : ∃ A c l, v1 = .slice A (List.length l) c ∧ RL W (fun b => b < W.heap.size) A c l := by
  obtain ⟨fuel, hf⟩ := h1
  rw [e1] at hf ⊢
  exact open_nats hf (fit 1 _ _ rfl rfl)
 clear hA0 hval0
 subst hv0 hv1
 refine (ord_law W hR1 (fun b hb => hb)).mono fun e W' ⟨he, bel⟩ => ?_
 subst he
 exact ⟨_, rfl, _, _, _, [], _, [], hW', trodAll_mk1 (shut_bool Try.underlying4 _), (trodAll_cons_mk (Below.trod laidOut (by kernel_rfl) (of_decide_eq_true (by kernel_rfl)) k0 bel lt0) (trodAll_cons_mk (Below.trod laidOut (by kernel_rfl) (of_decide_eq_true (by kernel_rfl)) k1 bel lt1) trodAll_mk0)), rfl, bel.frame _, fun h => by cases h⟩

theorem over : Rows.curveOrderRow.holds Try.pinned (OpenSpec.ofChange Rows.curveOrderSpec) :=
 OpenClaim.holds_of_wide 9 Try.f9 rfl rfl rfl rfl rfl rfl rfl ⟨rfl, rfl, rfl, rfl, rfl⟩ rfl rfl rfl rfl rfl (by kernel_rfl) Try.func9 (by kernel_rfl)
  (of_decide_eq_true (by kernel_rfl)) (by unfold Func.isWrapper; first | (rw [if_pos (by decide +kernel)]; kernel_rfl) | (rw [if_neg (by decide +kernel)]; exact ⟨rfl, rfl⟩))
  (fun os started H enc _ => lifted os started H enc)

theorem proved : Rows.CurveOrderSaid := over
#print axioms proved
end Go.Proofs.Ytldhmjfjbalakaa.curveOrder
