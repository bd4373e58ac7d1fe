/- curve: Neg. append of bytes onto a row of the call's own. -/
import Derived.Test.YtldhmjfjbalakaaKAx
import Derived.Test.YtldhmjfjbalakaaKAq
import Derived.Test.YtldhmjfjbalakaaKAu
namespace Go.Proofs.Ytldhmjfjbalakaa
open Go.RowKit

/-- What Neg answers. -/
def negC (C : Crv) (bi : Bool) (x y : Nat) : Option (Option (Nat × Nat)) := if onQ C bi x y = true then some (if bi then none else some (x, (C.M - y) % C.M)) else none
theorem IsC.plen9 {c : Int} {C : Crv} (h : IsC c C) : C.pl.length < 10 := by
 rcases h with ⟨_, rfl⟩ | ⟨_, rfl⟩ <;> decide
set_option maxRecDepth 100000 in
set_option maxHeartbeats 8000000 in
theorem neg_c {c : Int} {C : Crv} (hC : IsC c C) {p : Value} {bi : Bool} {x y : Nat} (w : World) (hp : APt w p bi x y) :
 Calls Try.prog 36 #[.int .i64 c, p] w fun e w' => ∃ o, e = .returned (.tuple #[o, .bool (negC C bi x y).isSome]) ∧ PtV w' w.heap.size o (negC C bi x y).join ∧ Ext w w' := by
 obtain ⟨A, A', ca, cb, a, b, rfl, ha, hb, hx, hy⟩ := hp
 have hp : APt w (.agg #[.bool bi, .slice A a.length ca, .slice A' b.length cb]) bi x y := ⟨A, A', ca, cb, a, b, rfl, ha, hb, hx, hy⟩
 obtain ⟨W0, hW0⟩ : ∃ W0, W0 = (w.alloc (.cells #[.bool bi, .slice A a.length ca, .slice A' b.length cb] 27)).alloc (.cells #[.bool false, .slice none 0 0, .slice none 0 0] 27) := ⟨_, rfl⟩
 obtain ⟨q, hq⟩ : ∃ q, w.heap.size = q := ⟨_, rfl⟩
 have hE0 : Ext w W0 := by rw [hW0]; exact (Ext.alloc _ _).trans (Ext.alloc _ _)
 obtain ⟨h1, h3, hz0⟩ := two_at2 w (.cells #[.bool bi, .slice A a.length ca, .slice A' b.length cb] 27) (.cells #[.bool false, .slice none 0 0, .slice none 0 0] 27)
 rw [← hW0, hq] at h1 h3 hz0
 have hp0 := Lib.hid (hp.ext hE0)
 have HE0 := Lib.hid hE0
 have Hz0 := Lib.hid hz0
 have HC := Lib.hid hC
 have Ha := Lib.hid (RN.up ha hE0)
 have Hb := Lib.hid (RN.up hb hE0)
 have Hx := Lib.hid hx
 have Hy := Lib.hid hy
 rw [hq]
 obtain ⟨res, hres⟩ : ∃ o, negC C bi x y = o := ⟨_, rfl⟩
 rw [hres]
 have Hres := Lib.hid hres
 clear hp hE0 hz0 hC hres ha hb hx hy
 go_enter Try.func36, Try.ntmps36
 go_upto_region 1 with fail
 rw [← hW0]
 have Hq := Lib.hid hq
 clear hW0 hq
 obtain ⟨o1, ho1⟩ : ∃ o, onQ C bi x y = o := ⟨_, rfl⟩
 have Ho1 := Lib.hid ho1
 clear ho1
 go_upto_region 2 with (go_at_call 42; refine (of_c HC.out _).mono ?_; rintro e wa ⟨k, rfl, hk, hE1⟩)
 have HE1 := Lib.hid hE1
 replace h1 := hE1.at_ h1
 replace h3 := hE1.at_ h3
 clear hE1
 cases o1
 case false =>
  obtain rfl : res = none := by rw [← Hres.out, negC, if_neg (by rw [Ho1.out]; decide)]
  refine Par.region_txt 4 [0, 0, 3, 7] [] (fun j f X => match j with
   | 0 => f 0 = .pointer (some ⟨k, 0, none⟩)
   | 1 => f 1 = .agg #[.bool bi, .slice A a.length ca, .slice A' b.length cb]
   | 2 => f 2 = .bool false
   | 3 => f 3 = .bool true
   | _ => True) (by kernel_rfl) [(11, 0), (12, 1), (13, 2), (14, 3)] (by kernel_rfl) ?_
  refine Par.S 1 3 [(12, 1)] (fun f X hX hR K hK => ?_) ?_
  · simp only [yA, yB, yC, yD, yE]
    refine ⟨?_⟩
    go_simp
    exact Par.k hK (s := by simp only [yA, yB, yC, yD, yE])
  refine Par.S 2 2 [(11, 0)] (fun f X hX hR K hK => ?_) ?_
  · simp only [yA, yB, yC, yD, yE]
    refine ⟨Par.want (by kernel_rfl) (wp_loadV (v := .agg #[.bool bi, .slice A a.length ca, .slice A' b.length cb]) (t := 27) 27 (.tmp 3) rfl rfl (hX.at_ h1) Try.underlying27 rfl infoP rfl ?_)⟩
    exact Par.k hK (s := by simp only [yA, yB, yC, yD, yE])
  refine Par.S 3 1 [(11, 0), (12, 1)] (fun f X hX hR K hK => ?_) ?_
  · have e0 : f 0 = _ := hR.out 0 rfl
    have e1 : f 1 = _ := hR.out 1 rfl
    simp only [yA, yB, yC, yD, yE, e0, e1]
    refine ⟨?_⟩
    go_simp
    refine (on_j (hk.ext hX) HC.out.fine (hp0.out.ext (HE1.out.trans hX))).mono ?_
    rw [Ho1.out]
    rintro e w2 ⟨rfl, hB⟩
    exact hK.out _ _ _ (by simp only [yA, yB, yC, yD, yE, e0, e1]) hB trivial (fun _ _ => rfl)
  refine Par.S 4 0 [(11, 0), (12, 1), (13, 2)] (fun f X hX hR K hK => ?_) ?_
  · have e2 : f 2 = _ := hR.out 2 rfl
    simp only [yA, yB, yC, yD, yE, e2]
    refine ⟨?_⟩
    go_simp
    exact Par.k hK (s := by simp only [yA, yB, yC, yD, yE, e2])
  refine Par.AllOps.fin ⟨fun f X hX hR hal hap => ?_⟩
  have e0 : f 0 = _ := hR 0 (by decide)
  have e1 : f 1 = _ := hR 1 (by decide)
  have e2 : f 2 = _ := hR 2 (by decide)
  have e3 : f 3 = _ := hR 3 (by decide)
  simp only [yA, yB, yC, yD, yE, e0, e1, e2, e3]
  clear hR hal hap e0 e1 e2 e3
  refine Par.Chain.done ?_
  have hb1 := hX.at_ h3
  go_wp2_with (go_at_call 45; refine (none_any _).mono ?_; rintro e wb ⟨rfl, hE2⟩; have hrb2 := hE2.at_ hb1; obtain ⟨z0, z1, z2, f0, f1, f2⟩ := pt_facts hrb2)
  exact end_pt rfl rfl rfl rfl (pt_set hrb2 _ _ _) ⟨_, rfl, rfl, pt_ext (((HE0.out.trans HE1.out).trans hX).trans hE2) (by have := Hq.out; omega) _ _ _⟩
 case true =>
  cases bi
  case true =>
   obtain rfl : res = some none := by rw [← Hres.out, negC, if_pos Ho1.out]; rfl
   refine Par.region_txt 4 [0, 0, 3, 7] [] (fun j f X => match j with
    | 0 => f 0 = .pointer (some ⟨k, 0, none⟩)
    | 1 => f 1 = .agg #[.bool true, .slice A a.length ca, .slice A' b.length cb]
    | 2 => f 2 = .bool true
    | 3 => f 3 = .bool false
    | _ => True) (by kernel_rfl) [(11, 0), (12, 1), (13, 2), (14, 3)] (by kernel_rfl) ?_
   refine Par.S 1 3 [(12, 1)] (fun f X hX hR K hK => ?_) ?_
   · simp only [yA, yB, yC, yD, yE]
     refine ⟨?_⟩
     go_simp
     exact Par.k hK (s := by simp only [yA, yB, yC, yD, yE])
   refine Par.S 2 2 [(11, 0)] (fun f X hX hR K hK => ?_) ?_
   · simp only [yA, yB, yC, yD, yE]
     refine ⟨Par.want (by kernel_rfl) (wp_loadV (v := .agg #[.bool true, .slice A a.length ca, .slice A' b.length cb]) (t := 27) 27 (.tmp 3) rfl rfl (hX.at_ h1) Try.underlying27 rfl infoP rfl ?_)⟩
     exact Par.k hK (s := by simp only [yA, yB, yC, yD, yE])
   refine Par.S 3 1 [(11, 0), (12, 1)] (fun f X hX hR K hK => ?_) ?_
   · have e0 : f 0 = _ := hR.out 0 rfl
     have e1 : f 1 = _ := hR.out 1 rfl
     simp only [yA, yB, yC, yD, yE, e0, e1]
     refine ⟨?_⟩
     go_simp
     refine (on_j (hk.ext hX) HC.out.fine (hp0.out.ext (HE1.out.trans hX))).mono ?_
     rw [Ho1.out]
     rintro e w2 ⟨rfl, hB⟩
     exact hK.out _ _ _ (by simp only [yA, yB, yC, yD, yE, e0, e1]) hB trivial (fun _ _ => rfl)
   refine Par.S 4 0 [(11, 0), (12, 1), (13, 2)] (fun f X hX hR K hK => ?_) ?_
   · have e2 : f 2 = _ := hR.out 2 rfl
     simp only [yA, yB, yC, yD, yE, e2]
     refine ⟨?_⟩
     go_simp
     exact Par.k hK (s := by simp only [yA, yB, yC, yD, yE, e2])
   refine Par.AllOps.fin ⟨fun f X hX hR hal hap => ?_⟩
   have e0 : f 0 = _ := hR 0 (by decide)
   have e1 : f 1 = _ := hR 1 (by decide)
   have e2 : f 2 = _ := hR 2 (by decide)
   have e3 : f 3 = _ := hR 3 (by decide)
   simp only [yA, yB, yC, yD, yE, e0, e1, e2, e3]
   clear hR hal hap e0 e1 e2 e3
   refine Par.Chain.done ?_
   have c0 := blk_cell (hX.at_ h1) 0
   simp only [List.getElem?_toArray, List.getElem?_cons_zero] at c0
   have hb1 := hX.at_ h3
   go_wp2_with (go_at_call 45; refine (none_any _).mono ?_; rintro e wb ⟨rfl, hE2⟩; have hrb2 := hE2.at_ hb1; obtain ⟨z0, z1, z2, f0, f1, f2⟩ := pt_facts hrb2)
   exact end_pt rfl rfl rfl rfl (pt_set hrb2 _ _ _) ⟨_, rfl, rfl, pt_ext (((HE0.out.trans HE1.out).trans hX).trans hE2) (by have := Hq.out; omega) _ _ _⟩
  case false =>
   obtain ⟨hxM, hyM⟩ := onQ_lt Ho1.out rfl
   obtain rfl : res = some (some (x, (C.M - y) % C.M)) := by rw [← Hres.out, negC, if_pos Ho1.out]; rfl
   refine Par.region_txt 4 [0, 0, 3, 7] [] (fun j f X => match j with
    | 0 => f 0 = .pointer (some ⟨k, 0, none⟩)
    | 1 => f 1 = .agg #[.bool false, .slice A a.length ca, .slice A' b.length cb]
    | 2 => f 2 = .bool true
    | 3 => f 3 = .bool false
    | _ => True) (by kernel_rfl) [(11, 0), (12, 1), (13, 2), (14, 3)] (by kernel_rfl) ?_
   refine Par.S 1 3 [(12, 1)] (fun f X hX hR K hK => ?_) ?_
   · simp only [yA, yB, yC, yD, yE]
     refine ⟨?_⟩
     go_simp
     exact Par.k hK (s := by simp only [yA, yB, yC, yD, yE])
   refine Par.S 2 2 [(11, 0)] (fun f X hX hR K hK => ?_) ?_
   · simp only [yA, yB, yC, yD, yE]
     refine ⟨Par.want (by kernel_rfl) (wp_loadV (v := .agg #[.bool false, .slice A a.length ca, .slice A' b.length cb]) (t := 27) 27 (.tmp 3) rfl rfl (hX.at_ h1) Try.underlying27 rfl infoP rfl ?_)⟩
     exact Par.k hK (s := by simp only [yA, yB, yC, yD, yE])
   refine Par.S 3 1 [(11, 0), (12, 1)] (fun f X hX hR K hK => ?_) ?_
   · have e0 : f 0 = _ := hR.out 0 rfl
     have e1 : f 1 = _ := hR.out 1 rfl
     simp only [yA, yB, yC, yD, yE, e0, e1]
     refine ⟨?_⟩
     go_simp
     refine (on_j (hk.ext hX) HC.out.fine (hp0.out.ext (HE1.out.trans hX))).mono ?_
     rw [Ho1.out]
     rintro e w2 ⟨rfl, hB⟩
     exact hK.out _ _ _ (by simp only [yA, yB, yC, yD, yE, e0, e1]) hB trivial (fun _ _ => rfl)
   refine Par.S 4 0 [(11, 0), (12, 1), (13, 2)] (fun f X hX hR K hK => ?_) ?_
   · have e2 : f 2 = _ := hR.out 2 rfl
     simp only [yA, yB, yC, yD, yE, e2]
     refine ⟨?_⟩
     go_simp
     exact Par.k hK (s := by simp only [yA, yB, yC, yD, yE, e2])
   refine Par.AllOps.fin ⟨fun f X hX hR hal hap => ?_⟩
   have e0 : f 0 = _ := hR 0 (by decide)
   have e1 : f 1 = _ := hR 1 (by decide)
   have e2 : f 2 = _ := hR 2 (by decide)
   have e3 : f 3 = _ := hR 3 (by decide)
   simp only [yA, yB, yC, yD, yE, e0, e1, e2, e3]
   clear hR hal hap e0 e1 e2 e3
   refine Par.Chain.done ?_
   have hk2 := hk.ext hX
   obtain ⟨P0, g, inv, ml, ol, rl, tl, fl, Ap, An, Ab, Ax, Ay, cp, cn, cc, cx, cy, hn, hP⟩ := hk2
   have k1 := hn.c_p
   have Hn := Lib.hid hn
   have HP := Lib.hid hP
   clear hn hP
   have HX := Lib.hid hX
   have HEX := Lib.hid ((HE0.out.trans HE1.out).trans hX)
   replace h1 := hX.at_ h1
   replace h3 := hX.at_ h3
   have c0 := blk_cell h1 0
   have c1 := blk_cell h1 1
   have c2 := blk_cell h1 2
   simp only [List.getElem?_toArray, List.getElem?_cons_zero, List.getElem?_cons_succ] at c0 c1 c2
   have Hpl := Lib.hid HC.out.plen9
   have HM := Lib.hid HC.out.fine
   clear hX
   rename World => X2
   go_upto_region 6 with fail
   refine Par.region_ext (by kernel_rfl) 12 [0, 1, 3, 7, 0, 16, 63, 127, 255, 255, 511, 2047] [] (fun j f X => match j with
    | 0 => f 0 = .pointer (some ⟨k, 0, none⟩)
    | 1 => f 1 = .pointer (some ⟨k, 0, none⟩)
    | 2 => f 2 = .pointer (some ⟨k, 1, none⟩)
    | 3 => f 3 = .slice Ap C.pl.length cp
    | 4 => f 4 = .pointer (some ⟨q, 2, none⟩)
    | 5 => f 5 = .slice A' b.length cb
    | 6 => ∃ A1 c1, f 6 = .tuple #[.slice A1 (digs 18446744073709551616 (C.M - y)).length c1, .bool true] ∧ OB X q A1 c1 (digs 18446744073709551616 (C.M - y))
    | 7 => ∃ A1 c1, f 7 = .tuple #[.slice A1 (digs 18446744073709551616 (C.M - y)).length c1, .bool true] ∧ OB X q A1 c1 (digs 18446744073709551616 (C.M - y))
    | 8 => ∃ A1 c1, f 8 = .slice A1 (digs 18446744073709551616 (C.M - y)).length c1 ∧ OB X q A1 c1 (digs 18446744073709551616 (C.M - y))
    | 9 => f 9 = .bool true
    | 10 => ∃ A1 c1, f 10 = .slice A1 (digs 18446744073709551616 (C.M - y)).length c1 ∧ OB X q A1 c1 (digs 18446744073709551616 (C.M - y))
    | 11 => f 11 = .bool true
    | _ => True) (by kernel_rfl) [(20, 0), (21, 1), (22, 2), (23, 3), (24, 4), (25, 5), (26, 6), (19, 7), (27, 8), (28, 9), (7, 10), (8, 11)] (by kernel_rfl) ?_
   refine Par.S 1 11 [(24, 4), (25, 5)] (fun f X hX hR K hK => ?_) ?_
   · simp only [yA, yB, yC, yD, yE]
     refine ⟨?_⟩
     go_simp
     exact Par.k hK (s := by simp only [yA, yB, yC, yD, yE])
   refine Par.S 2 10 [(20, 0), (24, 4), (25, 5)] (fun f X hX hR K hK => ?_) ?_
   · have e0 : f 0 = _ := hR.out 0 rfl
     simp only [yA, yB, yC, yD, yE, e0]
     refine ⟨?_⟩
     go_simp
     exact Par.k hK (s := by simp only [yA, yB, yC, yD, yE, e0])
   refine Par.S 3 9 [(20, 0), (21, 1), (24, 4), (25, 5)] (fun f X hX hR K hK => ?_) ?_
   · have e1 : f 1 = _ := hR.out 1 rfl
     simp only [yA, yB, yC, yD, yE, e1]
     refine ⟨?_⟩
     go_simp
     exact Par.k hK (s := by simp only [yA, yB, yC, yD, yE, e1])
   refine Par.S 4 8 [(20, 0), (21, 1), (22, 2), (24, 4), (25, 5)] (fun f X hX hR K hK => ?_) ?_
   · have e2 : f 2 = _ := hR.out 2 rfl
     have x0 := hX.cell k1
     simp only [yA, yB, yC, yD, yE, e2]
     refine ⟨?_⟩
     go_simp
     exact Par.k hK (s := by simp only [yA, yB, yC, yD, yE, e2])
   refine Par.S 5 7 [(20, 0), (21, 1), (22, 2), (23, 3)] (fun f X hX hR K hK => ?_) ?_
   · simp only [yA, yB, yC, yD, yE]
     refine ⟨?_⟩
     go_simp
     exact Par.k hK (s := by simp only [yA, yB, yC, yD, yE])
   refine Par.S 6 6 [(20, 0), (21, 1), (22, 2), (23, 3), (24, 4)] (fun f X hX hR K hK => ?_) ?_
   · have e4 : f 4 = _ := hR.out 4 rfl
     have x0 := hX.cell c2
     simp only [yA, yB, yC, yD, yE, e4]
     refine ⟨?_⟩
     go_simp
     exact Par.k hK (s := by simp only [yA, yB, yC, yD, yE, e4])
   refine Par.S 7 5 [(20, 0), (21, 1), (22, 2), (23, 3), (24, 4), (25, 5)] (fun f X hX hR K hK => ?_) ?_
   · have e3 : f 3 = _ := hR.out 3 rfl
     have e5 : f 5 = _ := hR.out 5 rfl
     simp only [yA, yB, yC, yD, yE, e3, e5]
     refine ⟨?_⟩
     go_simp
     refine (sub_yes P0 _ Ap A' cp cb C.pl b X (Hn.out.ext HP.out hX).p (RN.up Hb.out ((HE1.out.trans HX.out).trans hX)) (fun b hb => Nat.lt_of_lt_of_le (HP.out b hb) hX.bsize) (fun b hb => hb) (by have := Hpl.out; omega) (by rw [HM.out.pv, Hy.out]; omega)).mono ?_
     rw [HM.out.pv, Hy.out]
     rintro e w2 ⟨A1, c1, rfl, hO, hB⟩
     exact hK.out _ _ _ (by simp only [yA, yB, yC, yD, yE, e3, e5]) hB trivial (fun Y hY => ⟨A1, c1, rfl, (hO.mono (by have := HEX.out.bsize; have := hX.bsize; have := Hq.out; omega)).below hY (Nat.le_refl _)⟩)
   refine Par.S 8 4 [(20, 0), (21, 1), (22, 2), (23, 3), (24, 4), (25, 5), (26, 6)] (fun f X hX hR K hK => ?_) ?_
   · obtain ⟨A6, c6, (e6 : f 6 = _), o6⟩ := hR.out 6 rfl
     simp only [yA, yB, yC, yD, yE, e6]
     refine ⟨?_⟩
     go_simp
     exact hK.out _ _ _ (by simp only [yA, yB, yC, yD, yE, e6]) (Ext.refl _) trivial (fun Y hY => ⟨A6, c6, rfl, o6.below hY (Nat.le_refl _)⟩)
   refine Par.S 9 3 [(20, 0), (21, 1), (22, 2), (23, 3), (24, 4), (25, 5), (26, 6), (19, 7), (28, 9)] (fun f X hX hR K hK => ?_) ?_
   · obtain ⟨A7, c7, (e7 : f 7 = _), o7⟩ := hR.out 7 rfl
     simp only [yA, yB, yC, yD, yE, e7]
     refine ⟨?_⟩
     go_simp
     exact hK.out _ _ _ (by simp only [yA, yB, yC, yD, yE, e7]) (Ext.refl _) trivial (fun Y hY => ⟨A7, c7, rfl, o7.below hY (Nat.le_refl _)⟩)
   refine Par.S 10 2 [(20, 0), (21, 1), (22, 2), (23, 3), (24, 4), (25, 5), (26, 6), (19, 7), (27, 8), (7, 10)] (fun f X hX hR K hK => ?_) ?_
   · obtain ⟨A7, c7, (e7 : f 7 = _), o7⟩ := hR.out 7 rfl
     simp only [yA, yB, yC, yD, yE, e7]
     refine ⟨?_⟩
     go_simp
     exact Par.k hK (s := by simp only [yA, yB, yC, yD, yE, e7])
   refine Par.S 11 1 [(20, 0), (21, 1), (22, 2), (23, 3), (24, 4), (25, 5), (26, 6), (19, 7), (27, 8), (28, 9)] (fun f X hX hR K hK => ?_) ?_
   · obtain ⟨A8, c8, (e8 : f 8 = _), o8⟩ := hR.out 8 rfl
     simp only [yA, yB, yC, yD, yE, e8]
     refine ⟨?_⟩
     go_simp
     exact hK.out _ _ _ (by simp only [yA, yB, yC, yD, yE, e8]) (Ext.refl _) trivial (fun Y hY => ⟨A8, c8, rfl, o8.below hY (Nat.le_refl _)⟩)
   refine Par.S 12 0 [(20, 0), (21, 1), (22, 2), (23, 3), (24, 4), (25, 5), (26, 6), (19, 7), (27, 8), (28, 9), (7, 10)] (fun f X hX hR K hK => ?_) ?_
   · have e9 : f 9 = _ := hR.out 9 rfl
     simp only [yA, yB, yC, yD, yE, e9]
     refine ⟨?_⟩
     go_simp
     exact Par.k hK (s := by simp only [yA, yB, yC, yD, yE, e9])
   refine Par.AllOps.fin ⟨fun f X hX hR hal hap => ?_⟩
   have e0 : f 0 = _ := hR 0 (by decide)
   have e1 : f 1 = _ := hR 1 (by decide)
   have e2 : f 2 = _ := hR 2 (by decide)
   have e3 : f 3 = _ := hR 3 (by decide)
   have e4 : f 4 = _ := hR 4 (by decide)
   have e5 : f 5 = _ := hR 5 (by decide)
   obtain ⟨A6, c6, (e6 : f 6 = _), o6⟩ := hR 6 (by decide)
   obtain ⟨A7, c7, (e7 : f 7 = _), o7⟩ := hR 7 (by decide)
   obtain ⟨A8, c8, (e8 : f 8 = _), o8⟩ := hR 8 (by decide)
   have e9 : f 9 = _ := hR 9 (by decide)
   obtain ⟨A10, c10, (e10 : f 10 = _), o10⟩ := hR 10 (by decide)
   have e11 : f 11 = _ := hR 11 (by decide)
   simp only [yA, yB, yC, yD, yE, e0, e1, e2, e3, e4, e5, e6, e7, e8, e9, e10, e11]
   clear hR hal hap e0 e1 e2 e3 e4 e5 e6 e7 e8 e9 e10 e11
   refine Par.Chain.done ?_
   have HXY := Lib.hid hX
   replace h3 := hX.at_ h3
   have c1' := hX.cell c1
   have k1' := hX.cell k1
   have HO := Lib.hid o10
   have hMM := HM.out.three
   have hlq : (digs 18446744073709551616 (C.M - y)).length < 90000 := by
    have h1 : C.M - y < 18446744073709551616 ^ 48 := Nat.lt_of_le_of_lt (Nat.sub_le _ _) (Nat.lt_of_lt_of_le HM.out.room (Nat.le_trans (Nat.pow_le_pow_right (by omega) HM.out.small) (Nat.pow_le_pow_left (by omega) 48)))
    have := digs_length_of_lt (by omega) h1
    omega
   clear hX o6 o7 o8 o10 h1 c0 c1 c2 k1
   rename World => X3
   go_upto_region 7 with fail
   refine Par.region_txt 11 [0, 0, 2, 6, 14, 31, 63, 127, 127, 127, 511] [] (fun j f X => match j with
    | 0 => f 0 = .slice A10 (digs 18446744073709551616 (C.M - y)).length c10
    | 1 => f 1 = .pointer (some ⟨k, 0, none⟩)
    | 2 => f 2 = .pointer (some ⟨k, 0, none⟩)
    | 3 => f 3 = .pointer (some ⟨k, 1, none⟩)
    | 4 => f 4 = .slice Ap C.pl.length cp
    | 5 => ∃ A0 c0 A1 c1, f 5 = .tuple #[.slice A0 (digs 18446744073709551616 ((C.M - y) / C.M)).length c0, .slice A1 (digs 18446744073709551616 ((C.M - y) % C.M)).length c1, .bool true] ∧ OB X q A1 c1 (digs 18446744073709551616 ((C.M - y) % C.M))
    | 6 => ∃ A0 c0 A1 c1, f 6 = .tuple #[.slice A0 (digs 18446744073709551616 ((C.M - y) / C.M)).length c0, .slice A1 (digs 18446744073709551616 ((C.M - y) % C.M)).length c1, .bool true] ∧ OB X q A1 c1 (digs 18446744073709551616 ((C.M - y) % C.M))
    | 7 => ∃ v, f 7 = v
    | 8 => ∃ A1 c1, f 8 = .slice A1 (digs 18446744073709551616 ((C.M - y) % C.M)).length c1 ∧ OB X q A1 c1 (digs 18446744073709551616 ((C.M - y) % C.M))
    | 9 => f 9 = .bool true
    | 10 => ∃ A1 c1, f 10 = .slice A1 (digs 18446744073709551616 ((C.M - y) % C.M)).length c1 ∧ OB X q A1 c1 (digs 18446744073709551616 ((C.M - y) % C.M))
    | _ => True) (by kernel_rfl) [(30, 0), (31, 1), (32, 2), (33, 3), (34, 4), (35, 5), (29, 6), (36, 7), (37, 8), (38, 9), (7, 10)] (by kernel_rfl) ?_
   refine Par.S 1 10 [(31, 1), (32, 2), (33, 3), (34, 4)] (fun f X hX hR K hK => ?_) ?_
   · simp only [yA, yB, yC, yD, yE]
     refine ⟨?_⟩
     go_simp
     exact Par.k hK (s := by simp only [yA, yB, yC, yD, yE])
   refine Par.S 2 9 [(30, 0)] (fun f X hX hR K hK => ?_) ?_
   · simp only [yA, yB, yC, yD, yE]
     refine ⟨?_⟩
     go_simp
     exact Par.k hK (s := by simp only [yA, yB, yC, yD, yE])
   refine Par.S 3 8 [(30, 0), (31, 1)] (fun f X hX hR K hK => ?_) ?_
   · have e1 : f 1 = _ := hR.out 1 rfl
     simp only [yA, yB, yC, yD, yE, e1]
     refine ⟨?_⟩
     go_simp
     exact Par.k hK (s := by simp only [yA, yB, yC, yD, yE, e1])
   refine Par.S 4 7 [(30, 0), (31, 1), (32, 2)] (fun f X hX hR K hK => ?_) ?_
   · have e2 : f 2 = _ := hR.out 2 rfl
     simp only [yA, yB, yC, yD, yE, e2]
     refine ⟨?_⟩
     go_simp
     exact Par.k hK (s := by simp only [yA, yB, yC, yD, yE, e2])
   refine Par.S 5 6 [(30, 0), (31, 1), (32, 2), (33, 3)] (fun f X hX hR K hK => ?_) ?_
   · have e3 : f 3 = _ := hR.out 3 rfl
     have x0 := hX.cell k1'
     simp only [yA, yB, yC, yD, yE, e3]
     refine ⟨?_⟩
     go_simp
     exact Par.k hK (s := by simp only [yA, yB, yC, yD, yE, e3])
   refine Par.S 6 5 [(30, 0), (31, 1), (32, 2), (33, 3), (34, 4)] (fun f X hX hR K hK => ?_) ?_
   · have e0 : f 0 = _ := hR.out 0 rfl
     have e4 : f 4 = _ := hR.out 4 rfl
     simp only [yA, yB, yC, yD, yE, e0, e4]
     refine ⟨?_⟩
     go_simp
     refine (quo_any _ P0 A10 Ap c10 cp _ C.pl X (HO.out.below hX (Nat.le_refl _)).rn (Hn.out.ext HP.out (HXY.out.trans hX)).p (fun b hb => hb.2) (fun b hb => Nat.lt_of_lt_of_le (HP.out b hb) (HXY.out.trans hX).bsize) hlq (by have := Hpl.out; omega) (by rw [HM.out.pv]; omega)).mono ?_
     rw [HM.out.pv, val_digs (by omega)]
     rintro e w2 ⟨A0, c0, A1, c1, rfl, _, hO, hB⟩
     exact hK.out _ _ _ (by simp only [yA, yB, yC, yD, yE, e0, e4]) hB trivial (fun Y hY => ⟨A0, c0, A1, c1, rfl, (hO.mono (by have := HEX.out.bsize; have := (HXY.out.trans hX).bsize; have := Hq.out; omega)).below hY (Nat.le_refl _)⟩)
   refine Par.S 7 4 [(30, 0), (31, 1), (32, 2), (33, 3), (34, 4), (35, 5)] (fun f X hX hR K hK => ?_) ?_
   · obtain ⟨A4, c4, A5, c5, (e5 : f 5 = _), o5⟩ := hR.out 5 rfl
     simp only [yA, yB, yC, yD, yE, e5]
     refine ⟨?_⟩
     go_simp
     exact hK.out _ _ _ (by simp only [yA, yB, yC, yD, yE, e5]) (Ext.refl _) trivial (fun Y hY => ⟨A4, c4, A5, c5, rfl, o5.below hY (Nat.le_refl _)⟩)
   refine Par.S 8 3 [(30, 0), (31, 1), (32, 2), (33, 3), (34, 4), (35, 5), (29, 6), (37, 8), (38, 9)] (fun f X hX hR K hK => ?_) ?_
   · obtain ⟨B6, d6, A6, c6, (e6 : f 6 = _), o6⟩ := hR.out 6 rfl
     simp only [yA, yB, yC, yD, yE, e6]
     refine ⟨?_⟩
     go_simp
     exact hK.out _ (.slice B6 (digs 18446744073709551616 ((C.M - y) / C.M)).length d6) _ (by simp only [yA, yB, yC, yD, yE, e6]) (Ext.refl _) trivial (fun Y hY => ⟨_, rfl⟩)
   refine Par.S 9 2 [(30, 0), (31, 1), (32, 2), (33, 3), (34, 4), (35, 5), (29, 6), (36, 7), (38, 9)] (fun f X hX hR K hK => ?_) ?_
   · obtain ⟨B6, d6, A6, c6, (e6 : f 6 = _), o6⟩ := hR.out 6 rfl
     simp only [yA, yB, yC, yD, yE, e6]
     refine ⟨?_⟩
     go_simp
     exact hK.out _ _ _ (by simp only [yA, yB, yC, yD, yE, e6]) (Ext.refl _) trivial (fun Y hY => ⟨A6, c6, rfl, o6.below hY (Nat.le_refl _)⟩)
   refine Par.S 10 1 [(30, 0), (31, 1), (32, 2), (33, 3), (34, 4), (35, 5), (29, 6), (36, 7), (37, 8), (7, 10)] (fun f X hX hR K hK => ?_) ?_
   · obtain ⟨B6, d6, A6, c6, (e6 : f 6 = _), o6⟩ := hR.out 6 rfl
     simp only [yA, yB, yC, yD, yE, e6]
     refine ⟨?_⟩
     go_simp
     exact Par.k hK (s := by simp only [yA, yB, yC, yD, yE, e6])
   refine Par.S 11 0 [(30, 0), (31, 1), (32, 2), (33, 3), (34, 4), (35, 5), (29, 6), (36, 7), (37, 8), (38, 9)] (fun f X hX hR K hK => ?_) ?_
   · obtain ⟨A8, c8, (e8 : f 8 = _), o8⟩ := hR.out 8 rfl
     simp only [yA, yB, yC, yD, yE, e8]
     refine ⟨?_⟩
     go_simp
     exact hK.out _ _ _ (by simp only [yA, yB, yC, yD, yE, e8]) (Ext.refl _) trivial (fun Y hY => ⟨A8, c8, rfl, o8.below hY (Nat.le_refl _)⟩)
   refine Par.AllOps.fin ⟨fun f X hX hR hal hap => ?_⟩
   have e0 : f 0 = _ := hR 0 (by decide)
   have e1 : f 1 = _ := hR 1 (by decide)
   have e2 : f 2 = _ := hR 2 (by decide)
   have e3 : f 3 = _ := hR 3 (by decide)
   have e4 : f 4 = _ := hR 4 (by decide)
   obtain ⟨A4, c4, A5, c5, (e5 : f 5 = _), o5⟩ := hR 5 (by decide)
   obtain ⟨B6, d6, A6, c6, (e6 : f 6 = _), o6⟩ := hR 6 (by decide)
   obtain ⟨v7, (e7 : f 7 = _)⟩ := hR 7 (by decide)
   obtain ⟨A8, c8, (e8 : f 8 = _), o8⟩ := hR 8 (by decide)
   have e9 : f 9 = _ := hR 9 (by decide)
   obtain ⟨A11, c11, (e10 : f 10 = _), o10⟩ := hR 10 (by decide)
   simp only [yA, yB, yC, yD, yE, e0, e1, e2, e3, e4, e5, e6, e7, e8, e9, e10]
   clear hR hal hap e0 e1 e2 e3 e4 e5 e6 e7 e8 e9 e10
   refine Par.Chain.done ?_
   have HXZ := Lib.hid (HXY.out.trans hX)
   replace h3 := hX.at_ h3
   have c1 := hX.cell c1'
   have HO2 := Lib.hid o10
   clear hX o5 o6 o8 o10 c1' k1'
   rename World => X4
   go_upto_region 8 with fail
   refine Par.region_txt 5 [0, 1, 3, 0, 15, 31, 63] [] (fun j f X => match j with
    | 0 => f 0 = .pointer (some ⟨q, 1, none⟩)
    | 1 => f 1 = .slice A a.length ca
    | 2 => ∃ A1 c1, f 2 = .slice A1 (digs 18446744073709551616 x).length c1 ∧ OB X q A1 c1 (digs 18446744073709551616 x)
    | 3 => f 3 = .slice A11 (digs 18446744073709551616 ((C.M - y) % C.M)).length c11
    | 4 => ∃ A1 c1, f 4 = .agg #[.bool false, .slice A1 (digs 18446744073709551616 x).length c1, .slice A11 (digs 18446744073709551616 ((C.M - y) % C.M)).length c11] ∧ OB X q A1 c1 (digs 18446744073709551616 x)
    | _ => True) (by kernel_rfl) [(39, 0), (40, 1), (41, 2), (42, 3), (43, 4)] (by kernel_rfl) ?_
   refine Par.S 1 4 [(42, 3)] (fun f X hX hR K hK => ?_) ?_
   · simp only [yA, yB, yC, yD, yE]
     refine ⟨?_⟩
     go_simp
     exact Par.k hK (s := by simp only [yA, yB, yC, yD, yE])
   refine Par.S 2 3 [(39, 0), (42, 3)] (fun f X hX hR K hK => ?_) ?_
   · have e0 : f 0 = _ := hR.out 0 rfl
     have x0 := hX.cell c1
     simp only [yA, yB, yC, yD, yE, e0]
     refine ⟨?_⟩
     go_simp
     exact Par.k hK (s := by simp only [yA, yB, yC, yD, yE, e0])
   refine Par.S 3 2 [(39, 0), (40, 1), (42, 3)] (fun f X hX hR K hK => ?_) ?_
   · have e1 : f 1 = _ := hR.out 1 rfl
     simp only [yA, yB, yC, yD, yE, e1]
     refine ⟨?_⟩
     go_simp
     refine (norm_any _ A ca a X (RN.up Ha.out (((HE1.out.trans HX.out).trans HXZ.out).trans hX))).mono ?_
     rw [Hx.out]
     rintro e w2 ⟨A1, c1, rfl, hO, hB⟩
     exact hK.out _ _ _ (by simp only [yA, yB, yC, yD, yE, e1]) hB trivial (fun Y hY => ⟨A1, c1, rfl, (hO.mono (by have := HEX.out.bsize; have := (HXZ.out.trans hX).bsize; have := Hq.out; omega)).below hY (Nat.le_refl _)⟩)
   refine Par.S 4 1 [(39, 0), (40, 1), (41, 2)] (fun f X hX hR K hK => ?_) ?_
   · simp only [yA, yB, yC, yD, yE]
     refine ⟨?_⟩
     go_simp
     exact Par.k hK (s := by simp only [yA, yB, yC, yD, yE])
   refine Par.S 5 0 [(39, 0), (40, 1), (41, 2), (42, 3)] (fun f X hX hR K hK => ?_) ?_
   · obtain ⟨A2, c2, (e2 : f 2 = _), o2⟩ := hR.out 2 rfl
     have e3 : f 3 = _ := hR.out 3 rfl
     simp only [yA, yB, yC, yD, yE, e2, e3]
     refine ⟨?_⟩
     go_simp
     exact hK.out _ _ _ (by simp only [yA, yB, yC, yD, yE, e2, e3]) (Ext.refl _) trivial (fun Y hY => ⟨A2, c2, rfl, o2.below hY (Nat.le_refl _)⟩)
   refine Par.AllOps.fin ⟨fun f X hX hR hal hap => ?_⟩
   have e0 : f 0 = _ := hR 0 (by decide)
   have e1 : f 1 = _ := hR 1 (by decide)
   obtain ⟨A2, c2, (e2 : f 2 = _), o2⟩ := hR 2 (by decide)
   have e3 : f 3 = _ := hR 3 (by decide)
   obtain ⟨A5, c5, (e4 : f 4 = _), o4⟩ := hR 4 (by decide)
   simp only [yA, yB, yC, yD, yE, e0, e1, e2, e3, e4]
   clear hR hal hap e0 e1 e2 e3 e4
   refine Par.Chain.next (fun K hK => ⟨Par.want (by kernel_rfl) (wp_storeV (cs' := #[.bool false, .slice A5 (digs 18446744073709551616 x).length c5, .slice A11 (digs 18446744073709551616 ((C.M - y) % C.M)).length c11]) (t := 27) 27 (.tmp 4) (.tmp 43) rfl rfl rfl rfl (hX.at_ h3) infoP rfl (pt_one _ _ _ _ _ _ _) (fun Y hY1 hY2 hY3 => hK.out _ _ ?_))⟩)
   refine Par.Chain.next (fun K hK => ⟨Par.want (by kernel_rfl) ?_⟩)
   go_simp
   refine hK.out _ _ ?_
   refine Par.Chain.done ?_
   go_wp2
   exact end_pt rfl rfl rfl rfl hY1 ⟨_, rfl, ⟨A5, c5, A11, c11, rfl, o4.just hY2 (hX.at_ h3) (by decide), (HO2.out.below hX (Nat.le_refl _)).just hY2 (hX.at_ h3) (by decide)⟩, hY2.ext ((HEX.out.trans HXZ.out).trans hX) (by have := Hq.out; omega)⟩
end Go.Proofs.Ytldhmjfjbalakaa

namespace Go.Proofs.Ytldhmjfjbalakaa
open Go.RowKit

/-- A row of bytes of the call's own. -/
def OW (w : World) (base : Nat) (A : Option Addr) (c : Nat) (bs : List Nat) : Prop := w.ownsRow base 5 1 (.slice A bs.length c) bs.length (bys bs) ∧ ∀ b ∈ bs, b < 256
theorem own_base {w : World} {base n size : Nat} {e : TypeId} {v : Value} {cs : List Value} (h : w.ownsRow base e size v n cs) (k : Nat) (hk : v.ownBlock = some k) : base ≤ k := by
  rcases h.2 with ⟨rfl, rfl⟩ | ⟨g, cap, cur, rfl, hg, _⟩
  · cases hk
  · simp [Value.ownBlock] at hk
    omega
theorem OW.rb {w : World} {base : Nat} {A : Option Addr} {c : Nat} {bs : List Nat} (h : OW w base A c bs) (hl : bs.length ≤ 100000000) : RB w (In base w.heap.size) A c bs := ⟨RS.of_own h.1, h.2, by omega⟩
theorem OW.lit (w : World) (b : Nat) (hb : b < 256) : OW (w.alloc (.cells #[.int .u8 (b : Int)] 5)) w.heap.size (some ⟨w.heap.size, 0, none⟩) 1 [b] :=
  ⟨World.ownsRow_lit w #[.int .u8 (b : Int)] 1 (Nat.le_refl _) (by unfold maxLen; omega) rfl, by simp; exact hb⟩
theorem OW.ext {w X : World} {base : Nat} {A : Option Addr} {c : Nat} {bs : List Nat} (h : OW w base A c bs) (hE : w.grownBy X none) : OW X base A c bs := ⟨own_kept h.1 hE, h.2⟩
theorem RB.upE {w X : World} {A : Option Addr} {c : Nat} {bs : List Nat} (h : RB w (fun b => b < w.heap.size) A c bs) (hE : Ext w X) : RB X (fun b => b < X.heap.size) A c bs := (h.below hE (fun _ hb => hb)).mono fun _ hb => Nat.lt_of_lt_of_le hb hE.bsize
section
variable {w : World} {ops : Array Oper} {rest : List Oper} {o : Oper} {a : Act} {Q : Exit → Act → World → Prop}
theorem app8 (hgd : o.guard = none) (s x : Operand) (ho : o.op = .call { callee := .builtin .append, args := #[s, x], argTypes := #[49, 49] }) (base : Nat) {A Au : Option Addr} {c cu : Nat} {bs cs : List Nat} {B : Nat → Prop}
    (hs : a.eval s = .slice A bs.length c) (hown : OW w base A c bs) (hx : a.eval x = .slice Au cs.length cu) (hr : RB w B Au cu cs) (hl : bs.length + cs.length ≤ 100000000) (hbase : base ≤ w.heap.size)
    (h : ∀ A' c' w', OW w' base A' c' (bs ++ cs) → Below base w w' → wpList Try.prog ops Q rest (a.put o.dst (.slice A' (bs ++ cs).length c')) w') : wpList Try.prog ops Q (o :: rest) a w := by
  obtain ⟨i0, hi, hz0, hz1, hz2⟩ := info_parts info8
  refine wpList_append_rs w hgd s x 49 ho base 5 i0 (.int .u8 0) 1 1 Try.underlying49 hi hz0 hz1 hz2 rfl (by decide) _ bs.length (bys bs) hs hown.1 B Au cs.length cu (bys cs) hx hr.1 (by intro u hu; obtain ⟨b, _, rfl⟩ := List.mem_map.1 hu; rfl) (bs.length + cs.length) rfl (by unfold maxLen; omega) (by omega) hbase ?_
  intro A' c' w' h1 h2 h3
  have hlen : (bs ++ cs).length = bs.length + cs.length := List.length_append
  refine (hlen ▸ h A' c' w' ⟨?_, ?_⟩ ?_ : _)
  · rw [hlen, show bys (bs ++ cs) = bys bs ++ bys cs by simp [bys]]
    exact h1
  · intro b hb
    rcases List.mem_append.1 hb with hb | hb
    · exact hown.2 b hb
    · exact hr.2.1 b hb
  · exact Below.grown (Below.refl base w) h2 hbase (own_base hown.1)
end
end Go.Proofs.Ytldhmjfjbalakaa
