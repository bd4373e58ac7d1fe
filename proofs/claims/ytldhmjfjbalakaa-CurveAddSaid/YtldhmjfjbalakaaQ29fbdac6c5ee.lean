/- curve: Encode. curve: On, and Multiples' making. curve: twice the base of P-256, reckoned. begun: one point is told. CurveNumbers: the curves' numbers are the document's. curve: what Point, Mul and the reference's On answer of no curve. curve: what Add, Neg and On answer of no curve; by shape. -/
import Derived.Test.YtldhmjfjbalakaaQ818800b31ec0
namespace Go.Proofs.Ytldhmjfjbalakaa
open Go.RowKit

def encC (C : Crv) (bi : Bool) (x y : Nat) : Option (List Nat) := if onQ C bi x y = true then some (if bi then [0] else 4 :: (bytesOf x C.size ++ bytesOf y C.size)) else none
theorem Crv.Fine.bits {C : Crv} (h : C.Fine) {x : Nat} (hx : x < C.M) : nbits x ≤ 8 * C.size := nbits_le (Nat.lt_of_lt_of_le (Nat.lt_trans hx h.room) (by rw [pow256]; exact Nat.le_refl _))
theorem bytesOf_len (x n : Nat) : (bytesOf x n).length = n := by simp [bytesOf]
set_option maxRecDepth 100000 in
set_option maxHeartbeats 8000000 in
theorem encode_c {c : Int} {C : Crv} (hC : IsC c C) {p : Value} {bi : Bool} {x y : Nat} (w : World) (hp : APt w p bi x y) :
 Calls Try.prog 26 #[.int .i64 c, p] w fun e w' => ∃ A1 c1, e = .returned (.tuple #[.slice A1 ((encC C bi x y).getD []).length c1, .bool (encC C bi x y).isSome]) ∧ RB w' (In w.heap.size w'.heap.size) A1 c1 ((encC C bi x y).getD []) ∧ Ext w w' := by
 obtain ⟨A, A', ca, cb, a, b, rfl, ha, hb, hx, hy⟩ := hp
 have hp : APt w (.agg #[.bool bi, .slice A a.length ca, .slice A' b.length cb]) bi x y := ⟨A, A', ca, cb, a, b, rfl, ha, hb, hx, hy⟩
 obtain ⟨W0, hW0⟩ : ∃ W0, W0 = w.alloc (.cells #[.bool bi, .slice A a.length ca, .slice A' b.length cb] 27) := ⟨_, rfl⟩
 obtain ⟨q, hq⟩ : ∃ q, w.heap.size = q := ⟨_, rfl⟩
 have hE0 : Ext w W0 := by rw [hW0]; exact Ext.alloc _ _
 have h1 := heap_alloc_new w (.cells #[.bool bi, .slice A a.length ca, .slice A' b.length cb] 27)
 rw [← hW0, hq] at h1
 have hp0 := Lib.hid (hp.ext hE0)
 have HE0 := Lib.hid hE0
 have HC := Lib.hid hC
 have Ha := Lib.hid (RN.up ha hE0)
 have Hb := Lib.hid (RN.up hb hE0)
 have Hx := Lib.hid hx
 have Hy := Lib.hid hy
 rw [hq]
 obtain ⟨res, hres⟩ : ∃ o, encC C bi x y = o := ⟨_, rfl⟩
 rw [hres]
 have Hres := Lib.hid hres
 clear hp hE0 hC hres ha hb hx hy
 go_enter Try.func26, Try.ntmps26
 go_upto_region 1 with fail
 rw [← hW0]
 have Hq := Lib.hid hq
 clear hW0 hq
 obtain ⟨o1, ho1⟩ : ∃ o, onQ C bi x y = o := ⟨_, rfl⟩
 have Ho1 := Lib.hid ho1
 clear ho1
 go_upto_region 2 with (go_at_call 42; refine (of_c HC.out _).mono ?_; rintro e wa ⟨k, rfl, hk, hE1⟩)
 have HE1 := Lib.hid hE1
 replace h1 := hE1.at_ h1
 clear hE1
 cases o1
 case false =>
  obtain rfl : res = none := by rw [← Hres.out, encC, if_neg (by rw [Ho1.out]; decide)]
  refine Par.region_txt 4 [0, 0, 3, 7] [] (fun j f X => match j with
   | 0 => f 0 = .pointer (some ⟨k, 0, none⟩)
   | 1 => f 1 = .agg #[.bool bi, .slice A a.length ca, .slice A' b.length cb]
   | 2 => f 2 = .bool false
   | 3 => f 3 = .bool true
   | _ => True) (by kernel_rfl) [(13, 0), (14, 1), (15, 2), (16, 3)] (by kernel_rfl) ?_
  refine Par.v0 1 3 ?_
  refine lV0 2 2 h1 infoP ?_
  refine Par.c0 3 1 (fun f => #[f 0, f 1]) (F' := 43) (fun f X hX hR => ?_) ?_
  · have e0 : f 0 = _ := hR.out 0 rfl
    have e1 : f 1 = _ := hR.out 1 rfl
    simp only [e0, e1]
    refine (on_j (hk.ext hX) HC.out.fine (hp0.out.ext (HE1.out.trans hX))).mono ?_
    rw [Ho1.out]
    rintro e w2 ⟨rfl, hB⟩
    exact ⟨_, rfl, hB, fun _ _ => rfl⟩
  refine Par.v1 4 0 2 ?_
  refine Par.AllOps.fin ⟨fun f X hX hR hal hap => ?_⟩
  have e3 : f 3 = _ := hR 3 (by decide)
  simp only [yA, yB, yD, yE, e3]
  clear hR hal hap e3
  refine Par.Chain.done ?_
  go_wp2
  go_ret2
  exact ⟨none, 0, rfl, RB.nil_ _ _, (HE0.out.trans HE1.out).trans hX⟩
 case true =>
  cases bi
  case true =>
   obtain rfl : res = some [0] := by rw [← Hres.out, encC, if_pos Ho1.out]; rfl
   refine Par.region_txt 4 [0, 0, 3, 7] [] (fun j f X => match j with
    | 0 => f 0 = .pointer (some ⟨k, 0, none⟩)
    | 1 => f 1 = .agg #[.bool true, .slice A a.length ca, .slice A' b.length cb]
    | 2 => f 2 = .bool true
    | 3 => f 3 = .bool false
    | _ => True) (by kernel_rfl) [(13, 0), (14, 1), (15, 2), (16, 3)] (by kernel_rfl) ?_
   refine Par.v0 1 3 ?_
   refine lV0 2 2 h1 infoP ?_
   refine Par.c0 3 1 (fun f => #[f 0, f 1]) (F' := 43) (fun f X hX hR => ?_) ?_
   · have e0 : f 0 = _ := hR.out 0 rfl
     have e1 : f 1 = _ := hR.out 1 rfl
     simp only [e0, e1]
     refine (on_j (hk.ext hX) HC.out.fine (hp0.out.ext (HE1.out.trans hX))).mono ?_
     rw [Ho1.out]
     rintro e w2 ⟨rfl, hB⟩
     exact ⟨_, rfl, hB, fun _ _ => rfl⟩
   refine Par.v1 4 0 2 ?_
   refine Par.AllOps.fin ⟨fun f X hX hR hal hap => ?_⟩
   have e3 : f 3 = _ := hR 3 (by decide)
   simp only [yA, yB, yD, yE, e3]
   clear hR hal hap e3
   refine Par.Chain.done ?_
   have c0 := blk_cell (hX.at_ h1) 0
   simp only [List.getElem?_toArray, List.getElem?_cons_zero] at c0
   have HX := Lib.hid ((HE0.out.trans HE1.out).trans hX)
   clear hX h1
   rename World => X2
   have hw := OW.lit X2 0 (by omega)
   go_wp2
   go_ret2
   have := HX.out.bsize
   have := Hq.out
   exact ⟨_, _, rfl, (hw.rb (by simp)).mono (fun b hb => ⟨by have := hb.1; omega, hb.2⟩), HX.out.trans (Ext.alloc _ _)⟩
  case false =>
   obtain ⟨hxM, hyM⟩ := onQ_lt Ho1.out rfl
   obtain rfl : res = some (4 :: (bytesOf x C.size ++ bytesOf y C.size)) := by rw [← Hres.out, encC, if_pos Ho1.out]; rfl
   refine Par.region_txt 4 [0, 0, 3, 7] [] (fun j f X => match j with
    | 0 => f 0 = .pointer (some ⟨k, 0, none⟩)
    | 1 => f 1 = .agg #[.bool false, .slice A a.length ca, .slice A' b.length cb]
    | 2 => f 2 = .bool true
    | 3 => f 3 = .bool false
    | _ => True) (by kernel_rfl) [(13, 0), (14, 1), (15, 2), (16, 3)] (by kernel_rfl) ?_
   refine Par.v0 1 3 ?_
   refine lV0 2 2 h1 infoP ?_
   refine Par.c0 3 1 (fun f => #[f 0, f 1]) (F' := 43) (fun f X hX hR => ?_) ?_
   · have e0 : f 0 = _ := hR.out 0 rfl
     have e1 : f 1 = _ := hR.out 1 rfl
     simp only [e0, e1]
     refine (on_j (hk.ext hX) HC.out.fine (hp0.out.ext (HE1.out.trans hX))).mono ?_
     rw [Ho1.out]
     rintro e w2 ⟨rfl, hB⟩
     exact ⟨_, rfl, hB, fun _ _ => rfl⟩
   refine Par.v1 4 0 2 ?_
   refine Par.AllOps.fin ⟨fun f X hX hR hal hap => ?_⟩
   have e3 : f 3 = _ := hR 3 (by decide)
   simp only [yA, yB, yD, yE, e3]
   clear hR hal hap e3
   refine Par.Chain.done ?_
   have hk2 := hk.ext hX
   have ks := hk2.size
   have HX := Lib.hid hX
   have HEX := Lib.hid ((HE0.out.trans HE1.out).trans hX)
   replace h1 := hX.at_ h1
   have c0 := blk_cell h1 0
   have c1 := blk_cell h1 1
   have c2 := blk_cell h1 2
   simp only [List.getElem?_toArray, List.getElem?_cons_zero, List.getElem?_cons_succ] at c0 c1 c2
   have HM := Lib.hid HC.out.fine
   clear hX h1
   rename World => X2
   go_upto_region 6 with fail
   refine Par.region_ext (by kernel_rfl) 12 [0, 1, 0, 4, 12, 28, 63, 127, 255, 255, 511, 2047] [] (fun j f X => match j with
    | 0 => f 0 = .pointer (some ⟨q, 1, none⟩)
    | 1 => f 1 = .slice A a.length ca
    | 2 => f 2 = .pointer (some ⟨k, 0, none⟩)
    | 3 => f 3 = .pointer (some ⟨k, 0, none⟩)
    | 4 => f 4 = .pointer (some ⟨k, 0, none⟩)
    | 5 => f 5 = .int .i64 (C.size : Int)
    | 6 => ∃ A1, f 6 = .tuple #[.slice A1 C.size C.size, .bool true] ∧ RB X (fun b => b < X.heap.size) A1 C.size (bytesOf x C.size)
    | 7 => ∃ A1, f 7 = .tuple #[.slice A1 C.size C.size, .bool true] ∧ RB X (fun b => b < X.heap.size) A1 C.size (bytesOf x C.size)
    | 8 => ∃ A1, f 8 = .slice A1 C.size C.size ∧ RB X (fun b => b < X.heap.size) A1 C.size (bytesOf x C.size)
    | 9 => f 9 = .bool true
    | 10 => ∃ A1, f 10 = .slice A1 C.size C.size ∧ RB X (fun b => b < X.heap.size) A1 C.size (bytesOf x C.size)
    | 11 => f 11 = .bool true
    | _ => True) (by kernel_rfl) [(21, 0), (22, 1), (23, 2), (24, 3), (25, 4), (26, 5), (27, 6), (20, 7), (28, 8), (29, 9), (7, 10), (8, 11)] (by kernel_rfl) ?_
   refine Par.v0 1 11 ?_
   refine Par.ld1 2 10 0 c1 ?_
   refine Par.v0 3 9 ?_
   refine Par.v1 4 8 2 ?_
   refine Par.v1 5 7 3 ?_
   refine Par.ld1 6 6 4 ks ?_
   refine Par.c0 7 5 (fun f => #[f 1, f 5]) (F' := 61) (fun f X hX hR => ?_) ?_
   · have e1 : f 1 = _ := hR.out 1 rfl
     have e5 : f 5 = _ := hR.out 5 rfl
     simp only [e1, e5]
     refine (bytes_yes _ A ca a C.size X (RN.up Ha.out ((HE1.out.trans HX.out).trans hX)) (fun b hb => hb) (by have := HM.out.small; omega) (by rw [Hx.out]; exact HM.out.bits hxM)).mono ?_
     rw [Hx.out]
     rintro e w2 ⟨A1, rfl, hO, hB⟩
     exact ⟨_, rfl, hB, fun Y hY => ⟨A1, rfl, RB.upE (hO.mono fun b hb => hb.2) hY⟩⟩
   refine Par.S 8 4 [(21, 0), (22, 1), (23, 2), (24, 3), (25, 4), (26, 5), (27, 6)] (fun f X hX hR K hK => ?_) ?_
   · obtain ⟨A6, (e6 : f 6 = _), o6⟩ := hR.out 6 rfl
     simp only [yA, yB, yC, yD, yE, e6]
     refine ⟨?_⟩
     go_simp
     exact hK.out _ _ _ (by simp only [yA, yB, yC, yD, yE, e6]) (Ext.refl _) trivial (fun Y hY => ⟨A6, rfl, o6.upE hY⟩)
   refine Par.S 9 3 [(21, 0), (22, 1), (23, 2), (24, 3), (25, 4), (26, 5), (27, 6), (20, 7), (29, 9)] (fun f X hX hR K hK => ?_) ?_
   · obtain ⟨A7, (e7 : f 7 = _), o7⟩ := hR.out 7 rfl
     simp only [yA, yB, yC, yD, yE, e7]
     refine ⟨?_⟩
     go_simp
     exact hK.out _ _ _ (by simp only [yA, yB, yC, yD, yE, e7]) (Ext.refl _) trivial (fun Y hY => ⟨A7, rfl, o7.upE hY⟩)
   refine Par.S 10 2 [(21, 0), (22, 1), (23, 2), (24, 3), (25, 4), (26, 5), (27, 6), (20, 7), (28, 8), (7, 10)] (fun f X hX hR K hK => ?_) ?_
   · obtain ⟨A7, (e7 : f 7 = _), o7⟩ := hR.out 7 rfl
     simp only [yA, yB, yC, yD, yE, e7]
     refine ⟨?_⟩
     go_simp
     exact Par.k hK (s := by simp only [yA, yB, yC, yD, yE, e7])
   refine Par.S 11 1 [(21, 0), (22, 1), (23, 2), (24, 3), (25, 4), (26, 5), (27, 6), (20, 7), (28, 8), (29, 9)] (fun f X hX hR K hK => ?_) ?_
   · obtain ⟨A8, (e8 : f 8 = _), o8⟩ := hR.out 8 rfl
     simp only [yA, yB, yC, yD, yE, e8]
     refine ⟨?_⟩
     go_simp
     exact hK.out _ _ _ (by simp only [yA, yB, yC, yD, yE, e8]) (Ext.refl _) trivial (fun Y hY => ⟨A8, rfl, o8.upE hY⟩)
   refine Par.v1 12 0 9 ?_
   refine Par.AllOps.fin ⟨fun f X hX hR hal hap => ?_⟩
   obtain ⟨A6, (e6 : f 6 = _), o6⟩ := hR 6 (by decide)
   obtain ⟨A7, (e7 : f 7 = _), o7⟩ := hR 7 (by decide)
   obtain ⟨A8, (e8 : f 8 = _), o8⟩ := hR 8 (by decide)
   obtain ⟨Bx, (e10 : f 10 = _), o10⟩ := hR 10 (by decide)
   simp only [yA, yB, yD, yE, e6, e7, e8, e10]
   clear hR hal hap e6 e7 e8 e10
   refine Par.Chain.done ?_
   have HXY := Lib.hid hX
   replace c2 := hX.cell c2
   replace ks := hX.cell ks
   have HOx := Lib.hid o10
   clear hX o6 o7 o8 o10 c0 c1
   rename World => X3
   go_upto_region 7 with fail
   refine Par.region_ext (by kernel_rfl) 12 [0, 1, 0, 4, 12, 28, 63, 127, 255, 255, 511, 2047] [] (fun j f X => match j with
    | 0 => f 0 = .pointer (some ⟨q, 2, none⟩)
    | 1 => f 1 = .slice A' b.length cb
    | 2 => f 2 = .pointer (some ⟨k, 0, none⟩)
    | 3 => f 3 = .pointer (some ⟨k, 0, none⟩)
    | 4 => f 4 = .pointer (some ⟨k, 0, none⟩)
    | 5 => f 5 = .int .i64 (C.size : Int)
    | 6 => ∃ A1, f 6 = .tuple #[.slice A1 C.size C.size, .bool true] ∧ RB X (fun b => b < X.heap.size) A1 C.size (bytesOf y C.size)
    | 7 => ∃ A1, f 7 = .tuple #[.slice A1 C.size C.size, .bool true] ∧ RB X (fun b => b < X.heap.size) A1 C.size (bytesOf y C.size)
    | 8 => ∃ A1, f 8 = .slice A1 C.size C.size ∧ RB X (fun b => b < X.heap.size) A1 C.size (bytesOf y C.size)
    | 9 => f 9 = .bool true
    | 10 => ∃ A1, f 10 = .slice A1 C.size C.size ∧ RB X (fun b => b < X.heap.size) A1 C.size (bytesOf y C.size)
    | 11 => f 11 = .bool true
    | _ => True) (by kernel_rfl) [(31, 0), (32, 1), (33, 2), (34, 3), (35, 4), (36, 5), (37, 6), (30, 7), (38, 8), (39, 9), (9, 10), (10, 11)] (by kernel_rfl) ?_
   refine Par.v0 1 11 ?_
   refine Par.ld1 2 10 0 c2 ?_
   refine Par.v0 3 9 ?_
   refine Par.v1 4 8 2 ?_
   refine Par.v1 5 7 3 ?_
   refine Par.ld1 6 6 4 ks ?_
   refine Par.c0 7 5 (fun f => #[f 1, f 5]) (F' := 61) (fun f X hX hR => ?_) ?_
   · have e1 : f 1 = _ := hR.out 1 rfl
     have e5 : f 5 = _ := hR.out 5 rfl
     simp only [e1, e5]
     refine (bytes_yes _ A' cb b C.size X (RN.up Hb.out (((HE1.out.trans HX.out).trans HXY.out).trans hX)) (fun b hb => hb) (by have := HM.out.small; omega) (by rw [Hy.out]; exact HM.out.bits hyM)).mono ?_
     rw [Hy.out]
     rintro e w2 ⟨A1, rfl, hO, hB⟩
     exact ⟨_, rfl, hB, fun Y hY => ⟨A1, rfl, RB.upE (hO.mono fun b hb => hb.2) hY⟩⟩
   refine Par.S 8 4 [(31, 0), (32, 1), (33, 2), (34, 3), (35, 4), (36, 5), (37, 6)] (fun f X hX hR K hK => ?_) ?_
   · obtain ⟨A6, (e6 : f 6 = _), o6⟩ := hR.out 6 rfl
     simp only [yA, yB, yC, yD, yE, e6]
     refine ⟨?_⟩
     go_simp
     exact hK.out _ _ _ (by simp only [yA, yB, yC, yD, yE, e6]) (Ext.refl _) trivial (fun Y hY => ⟨A6, rfl, o6.upE hY⟩)
   refine Par.S 9 3 [(31, 0), (32, 1), (33, 2), (34, 3), (35, 4), (36, 5), (37, 6), (30, 7), (39, 9)] (fun f X hX hR K hK => ?_) ?_
   · obtain ⟨A7, (e7 : f 7 = _), o7⟩ := hR.out 7 rfl
     simp only [yA, yB, yC, yD, yE, e7]
     refine ⟨?_⟩
     go_simp
     exact hK.out _ _ _ (by simp only [yA, yB, yC, yD, yE, e7]) (Ext.refl _) trivial (fun Y hY => ⟨A7, rfl, o7.upE hY⟩)
   refine Par.S 10 2 [(31, 0), (32, 1), (33, 2), (34, 3), (35, 4), (36, 5), (37, 6), (30, 7), (38, 8), (9, 10)] (fun f X hX hR K hK => ?_) ?_
   · obtain ⟨A7, (e7 : f 7 = _), o7⟩ := hR.out 7 rfl
     simp only [yA, yB, yC, yD, yE, e7]
     refine ⟨?_⟩
     go_simp
     exact Par.k hK (s := by simp only [yA, yB, yC, yD, yE, e7])
   refine Par.S 11 1 [(31, 0), (32, 1), (33, 2), (34, 3), (35, 4), (36, 5), (37, 6), (30, 7), (38, 8), (39, 9)] (fun f X hX hR K hK => ?_) ?_
   · obtain ⟨A8, (e8 : f 8 = _), o8⟩ := hR.out 8 rfl
     simp only [yA, yB, yC, yD, yE, e8]
     refine ⟨?_⟩
     go_simp
     exact hK.out _ _ _ (by simp only [yA, yB, yC, yD, yE, e8]) (Ext.refl _) trivial (fun Y hY => ⟨A8, rfl, o8.upE hY⟩)
   refine Par.v1 12 0 9 ?_
   refine Par.AllOps.fin ⟨fun f X hX hR hal hap => ?_⟩
   obtain ⟨A6, (e6 : f 6 = _), o6⟩ := hR 6 (by decide)
   obtain ⟨A7, (e7 : f 7 = _), o7⟩ := hR 7 (by decide)
   obtain ⟨A8, (e8 : f 8 = _), o8⟩ := hR 8 (by decide)
   obtain ⟨By, (e10 : f 10 = _), o10⟩ := hR 10 (by decide)
   simp only [yA, yB, yD, yE, e6, e7, e8, e10]
   clear hR hal hap e6 e7 e8 e10
   refine Par.Chain.done ?_
   have HXZ := Lib.hid hX
   have hx8 := Lib.hid (HOx.out.upE hX)
   have hy8 := Lib.hid o10
   clear hX o6 o7 o8 o10 c2 ks
   rename World => X4
   obtain ⟨B0, hB0⟩ : ∃ B, X4.heap.size = B := ⟨_, rfl⟩
   have hl : OW (X4.alloc (.cells #[.int .u8 4] 5)) X4.heap.size (some ⟨X4.heap.size, 0, none⟩) 1 [4] := OW.lit X4 4 (by omega)
   have hA := Ext.alloc X4 (.cells #[.int .u8 4] 5)
   have hx9 := Lib.hid ((hx8.out).below hA (fun b hb => hb))
   have hy9 := Lib.hid ((hy8.out).below hA (fun b hb => hb))
   have hz9 : (X4.alloc (.cells #[.int .u8 4] 5)).heap.size = B0 + 1 := by rw [World.size_alloc, hB0]
   have HA := Lib.hid hA
   rw [hB0] at hl
   have Hl := Lib.hid hl
   have HB0 := Lib.hid hB0
   have lx := bytesOf_len x C.size
   have ly := bytesOf_len y C.size
   have HS := Lib.hid lx
   have HT := Lib.hid ly
   have Hsm := Lib.hid HM.out.small
   have Hz9 := Lib.hid hz9
   clear hl hA hz9 lx ly
   go_upto_region 8 with fail


   go_wp2_with (at_builtin; first
    | (refine app8 rfl (.tmp 40) (.tmp 41) rfl B0 rfl Hl.out (by rw [HS.out]; rfl) hx9.out (by rw [HS.out]; have := Hsm.out; simp; omega) (by have := Hz9.out; omega) ?_; intro A1 c1 w1 hw1 hb1; have Hw1 := Lib.hid hw1; have Hb1 := Lib.hid hb1; clear hw1 hb1)
    | (refine app8 rfl (.tmp 42) (.tmp 43) rfl B0 rfl Hw1.out (by rw [HT.out]; rfl) (hy9.out.below Hb1.out (fun b hb => by have := HB0.out; omega)) (by rw [List.length_append, HS.out, HT.out]; have := Hsm.out; simp; omega) (by have := Hz9.out; have := Hb1.out.size; omega) ?_; intro A2 c2 w2 hw2 hb2; have Hw2 := Lib.hid hw2; have Hb2 := Lib.hid hb2; clear hw2 hb2))
   go_ret2
   have hEx := (HEX.out.trans HXY.out).trans HXZ.out
   have hq : q ≤ B0 := by have := hEx.bsize; have := Hq.out; omega
   have hrb := Hw2.out.rb (by rw [List.length_append, List.length_append, HS.out, HT.out]; have := Hsm.out; simp; omega)
   refine ⟨A2, c2, ?_, hrb.mono (fun b hb => ⟨by have := hb.1; omega, hb.2⟩), Below.trans (hEx.trans HA.out) (Below.mono (Hb1.out.trans Hb2.out) (by have := hEx.bsize; omega))⟩
   show _ = Ending.returned (.tuple #[.slice A2 (4 :: (bytesOf x C.size ++ bytesOf y C.size)).length c2, .bool true])
   rw [List.length_cons, List.length_append]
   rfl
end Go.Proofs.Ytldhmjfjbalakaa

namespace Go.Proofs.Ytldhmjfjbalakaa
open Go.RowKit

set_option maxRecDepth 100000 in
set_option maxHeartbeats 4000000 in
theorem onx_c {c : Int} {C : Crv} (hC : IsC c C) {p : Value} {bi : Bool} {x y : Nat} (w : World) (hp : APt w p bi x y) :
 Calls Try.prog 37 #[.int .i64 c, p] w fun e w' => e = .returned (.bool (onQ C bi x y)) ∧ Ext w w' := by
 obtain ⟨p1, p2, rfl⟩ := apt_agg hp
 obtain ⟨W0, hW0⟩ : ∃ W0, W0 = w.alloc (.cells #[.bool bi, p1, p2] 27) := ⟨_, rfl⟩
 obtain ⟨q, hq⟩ : ∃ q, w.heap.size = q := ⟨_, rfl⟩
 have hE0 : Ext w W0 := by rw [hW0]; exact Ext.alloc _ _
 have h1 := heap_alloc_new w (.cells #[.bool bi, p1, p2] 27)
 rw [← hW0, hq] at h1
 have hp0 := Lib.hid (hp.ext hE0)
 have HE0 := Lib.hid hE0
 have HC := Lib.hid hC
 obtain ⟨res, hres⟩ : ∃ o, onQ C bi x y = o := ⟨_, rfl⟩
 rw [hres]
 have Hres := Lib.hid hres
 clear hp hE0 hC hres
 go_enter Try.func37, Try.ntmps37
 go_upto_region 1 with fail
 rw [← hW0]
 clear hW0 hq
 refine Par.region_ext (by kernel_rfl) 5 [0, 1, 0, 7, 15] [] (fun j f X => match j with
  | 0 => f 0 = .int .i64 c
  | 1 => ∃ k, f 1 = .pointer (some ⟨k, 0, none⟩) ∧ OfC C X k
  | 2 => f 2 = .agg #[.bool bi, p1, p2]
  | 3 => f 3 = .bool res
  | 4 => f 4 = .bool res
  | _ => True) (by kernel_rfl) [(5, 0), (6, 1), (7, 2), (8, 3), (4, 4)] (by kernel_rfl) ?_
 refine Par.v0 1 4 ?_
 refine Par.c0 2 3 (fun f => #[f 0]) (F' := 42) (fun f X hX hR => ?_) ?_
 · have e0 : f 0 = .int .i64 c := hR.out 0 rfl
   simp only [e0]
   refine (of_c HC.out X).mono ?_
   rintro e w2 ⟨k, rfl, hk, hB⟩
   exact ⟨_, rfl, hB, fun Y hY => ⟨k, rfl, hk.ext hY⟩⟩
 refine lV0 3 2 h1 infoP ?_
 refine Par.c0 4 1 (fun f => #[f 1, f 2]) (F' := 43) (fun f X hX hR => ?_) ?_
 · obtain ⟨k1, e1, hk1⟩ : ∃ k, f 1 = .pointer (some ⟨k, 0, none⟩) ∧ OfC C X k := hR.out 1 rfl
   have e2 : f 2 = .agg #[.bool bi, p1, p2] := hR.out 2 rfl
   simp only [e1, e2]
   refine (on_j hk1 HC.out.fine (hp0.out.ext hX)).mono ?_
   rw [Hres.out]
   rintro e w2 ⟨rfl, hB⟩
   exact ⟨_, rfl, hB, fun _ _ => rfl⟩
 refine Par.v1 5 0 3 ?_
 refine Par.AllOps.fin ⟨fun f X hX hR hal hap => ?_⟩
 obtain ⟨k1, e1, hk1⟩ : ∃ k, f 1 = .pointer (some ⟨k, 0, none⟩) ∧ OfC C X k := hR 1 (by decide)
 have e4 : f 4 = .bool res := hR 4 (by decide)
 simp only [Par.putL, Act.put, List.setIfInBounds_toArray, List.set_cons_succ, List.set_cons_zero, e1, e4]
 clear hR hal hap e1 e4
 refine Par.Chain.done ?_
 go_wp2
 go_ret
 exact ⟨rfl, HE0.out.trans hX⟩
theorem multiples_any (c : Int) {bi : Bool} {p1 p2 : Value} (w : World) :
 Calls Try.prog 30 #[.int .i64 c, .agg #[.bool bi, p1, p2]] w fun e w' => e = .returned (.func (.func 65) #[] #[.pointer (some ⟨w.heap.size, 0, none⟩), .pointer (some ⟨w.heap.size + 1, 0, none⟩)]) ∧
  w' = (w.alloc (.cells #[.int .i64 c] 3)).alloc (.cells #[.bool bi, p1, p2] 27) := by
 go_enter Try.func30, Try.ntmps30
 go_wp2
 go_ret
 exact ⟨rfl, rfl⟩
end Go.Proofs.Ytldhmjfjbalakaa

namespace Go.Proofs.Ytldhmjfjbalakaa
open Go.RowKit

def downE (M k x y z : Nat) : Option (Nat × Nat) := if z % M = 0 then none else some (mm M x (mm M (Pm.pw M z k (M - 2)) (Pm.pw M z k (M - 2))) % M, mm M y (mm M (mm M (Pm.pw M z k (M - 2)) (Pm.pw M z k (M - 2))) (Pm.pw M z k (M - 2))) % M)
theorem down_eval {M k x y z : Nat} (hk : M - 2 < 2 ^ k) : downP M x y z = downE M k x y z := by
 unfold downP downE
 split
 · rfl
 · rw [Pm.pw_eq k _ hk]
   have h1 : mm M (z ^ (M - 2)) (z ^ (M - 2)) = mm M (z ^ (M - 2) % M) (z ^ (M - 2) % M) := by simp only [mm]; rw [← Nat.mul_mod]
   have h2 : ∀ a, mm M a (z ^ (M - 2)) = mm M a (z ^ (M - 2) % M) := fun a => by simp only [mm]; rw [Nat.mul_mod, Nat.mul_mod a (z ^ (M - 2) % M), Nat.mod_mod]
   simp only [h1, h2]
def bx : Nat := 48439561293906451759052585252797914202762949526041747995844080717082404635286
def by_ : Nat := 36134250956749795798585127919587881956611106672985015071877198253568414405109
def x2 : Nat := 56515219790691171413109057904011688695424810155802929973526481321309856242040
def y2 : Nat := 3377031843712258259223711451491452598088675519751548567112458094635497583569
def p256 : Nat := 115792089210356248762697446949407573530086143415290314195533631308867097853951
theorem c256_M : c256.M = p256 := by kernel_rfl
theorem c256_x : val 18446744073709551616 c256.xl = bx := by kernel_rfl
theorem c256_y : val 18446744073709551616 c256.yl = by_ := by kernel_rfl
theorem on_base : onQ c256 false bx by_ = true := by kernel_rfl
theorem on_two : onQ c256 false x2 y2 = true := by kernel_rfl
theorem mul_two : mulC c256 false bx by_ 2 = some (some (x2, y2)) := by
 rw [mulC, if_pos on_base, if_pos (by decide +kernel)]
 rw [downT, down_eval (k := 256) (by rw [c256_M]; decide +kernel)]
 kernel_rfl
theorem add_two : addC c256 false bx by_ false bx by_ = some (some (x2, y2)) := by
 rw [addC, if_pos on_base, if_pos on_base]
 rw [downT, down_eval (k := 256) (by rw [c256_M]; decide +kernel)]
 kernel_rfl
def eb : List Nat := 4 :: (bytesOf x2 32 ++ bytesOf y2 32)
theorem eb_len : eb.length = 65 := by kernel_rfl
theorem enc_two : encC c256 false x2 y2 = some eb := by
 rw [encC, if_pos on_two]
 rfl
theorem dec_two : decC c256 eb = some (some (x2, y2)) := by kernel_rfl
theorem digs_x2 : digs 18446744073709551616 x2 = [11964737083406719352, 13873736548487404341, 9967090510939364035, 9003393950442278782] := by
 rw [show x2 = val 18446744073709551616 [11964737083406719352, 13873736548487404341, 9967090510939364035, 9003393950442278782] by kernel_rfl]
 exact digs_val (by omega) (by decide) (by decide)
theorem nl_len : c256.nl.length = 4 := rfl
end Go.Proofs.Ytldhmjfjbalakaa

namespace Go.Proofs.Ytldhmjfjbalakaa
open Go.RowKit

theorem isC1 : IsC 1 c256 := Or.inl ⟨rfl, rfl⟩
theorem isC2 : IsC 2 c384 := Or.inr ⟨rfl, rfl⟩
def PB (X : World) (b : Nat) (bi : Bool) (x y : Nat) : Prop := ∃ p1 p2, X.heap[b]? = some (.cells #[.bool bi, p1, p2] 27 (0, 0)) ∧ APt X (.agg #[.bool bi, p1, p2]) bi x y
theorem PB.ext {X Y : World} {b : Nat} {bi : Bool} {x y : Nat} (h : PB X b bi x y) (hE : Ext X Y) : PB Y b bi x y := let ⟨p1, p2, h1, h2⟩ := h; ⟨p1, p2, hE.at_ h1, h2.ext hE⟩
theorem neq_nilP (w : World) (f : Fn) (a b : Array Value) : (binOp .neq 59 (.func f a b) .nilFunc).run Try.prog w = .ok (.bool true) w := by kernel_rfl
set_option maxRecDepth 100000 in
set_option maxHeartbeats 8000000 in
theorem begun9_any (w : World) : Calls Try.prog 10 #[] w fun e w' => e = .returned (.bool true) ∧ Ext w w' := by
 go_enter Try.func10, Try.ntmps10
 go_upto_region 2 with (go_at_call 20; refine (base_c isC1 _).mono ?_; rintro e w1 ⟨A, cc, A', cc', rfl, hA, hA', hE1⟩)
 have hp1 : APt w1 (.agg #[.bool false, .slice A c256.xl.length cc, .slice A' c256.yl.length cc']) false bx by_ := ⟨A, A', cc, cc', _, _, rfl, hA, hA', c256_x, c256_y⟩
 generalize Value.slice A c256.xl.length cc = s1 at *
 generalize Value.slice A' c256.yl.length cc' = s2 at *
 have hb1 := heap_alloc_new w1 (.cells #[.bool false, s1, s2] 27)
 have hA1 := Ext.alloc w1 (.cells #[.bool false, s1, s2] 27)
 replace hp1 := hp1.ext hA1
 have HE1 := Lib.hid (hE1.trans hA1)
 generalize hV1 : w1.alloc (.cells #[.bool false, s1, s2] 27) = V1 at *
 obtain ⟨b1, hq1⟩ : ∃ b, w1.heap.size = b := ⟨_, rfl⟩
 rw [hq1] at hb1 ⊢
 have Hp1 := Lib.hid hp1
 have hA2 := Ext.alloc V1 (.cells #[.int .u64 2] 72)
 have htwo : RU (V1.alloc (.cells #[.int .u64 2] 72)) (some ⟨V1.heap.size, 0, none⟩) 1 [2] := (RN.one V1 2 (by omega)).mono (fun b hb => by rw [World.size_alloc]; exact hb.2)
 have hmul := mul_c isC1 (n := [2]) (E := 2) (V1.alloc (.cells #[.int .u64 2] 72)) (hp1.ext hA2) htwo rfl
 rw [mul_two, show [2].length = 1 from rfl] at hmul
 have Hmul := Lib.hid hmul
 replace hb1 := hA2.at_ hb1
 have HE2 := Lib.hid (HE1.out.trans hA2)
 replace Hp1 := Lib.hid (Hp1.out.ext hA2)
 obtain ⟨z10, z11, z12, q10, q11, q12⟩ := pt_facts hb1
 clear hA hA' hE1 hA1 hV1 hq1 hp1 htwo hmul hA2 HE1
 go_upto_region 3 with (go_at_call 15; refine Hmul.out.mono ?_; rintro e w2 ⟨o2, rfl, ⟨A2, k2, A2', k2', rfl, hx2, hy2⟩, hE2⟩)
 replace hb1 := hE2.at_ hb1
 replace Hp1 := Lib.hid (Hp1.out.ext hE2)
 have hp2 : APt w2 (.agg #[.bool false, .slice A2 (digs 18446744073709551616 x2).length k2, .slice A2' (digs 18446744073709551616 y2).length k2']) false x2 y2 := ⟨A2, A2', k2, k2', _, _, rfl, hx2.ru, hy2.ru, val_digs (by omega) _, val_digs (by omega) _⟩
 generalize Value.slice A2 (digs 18446744073709551616 x2).length k2 = s3 at *
 generalize Value.slice A2' (digs 18446744073709551616 y2).length k2' = s4 at *
 have hb2 := heap_alloc_new w2 (.cells #[.bool false, s3, s4] 27)
 have hA2 := Ext.alloc w2 (.cells #[.bool false, s3, s4] 27)
 generalize hV2 : w2.alloc (.cells #[.bool false, s3, s4] 27) = V2 at *
 obtain ⟨b2, hq2⟩ : ∃ b, w2.heap.size = b := ⟨_, rfl⟩
 rw [hq2] at hb2 ⊢
 have Hp2 := Lib.hid (hp2.ext hA2)
 have HE3 := Lib.hid ((HE2.out.trans hE2).trans hA2)
 replace hb1 := hA2.at_ hb1
 replace Hp1 := Lib.hid (Hp1.out.ext hA2)
 obtain ⟨z10, z11, z12, q10, q11, q12⟩ := pt_facts hb1
 have hadd := add_c isC1 V2 Hp1.out Hp1.out
 rw [add_two] at hadd
 have Hadd := Lib.hid hadd
 clear hx2 hy2 hE2 hp2 hA2 hV2 hq2 Hmul HE2 hadd
 go_upto_region 4 with (go_at_call 21; refine Hadd.out.mono ?_; rintro e w3 ⟨o3, rfl, ⟨A3, k3, A3', k3', rfl, hx3, hy3⟩, hE3⟩)
 replace hb1 := hE3.at_ hb1
 replace hb2 := hE3.at_ hb2
 have hp3 : APt w3 (.agg #[.bool false, .slice A3 (digs 18446744073709551616 x2).length k3, .slice A3' (digs 18446744073709551616 y2).length k3']) false x2 y2 := ⟨A3, A3', k3, k3', _, _, rfl, hx3.ru, hy3.ru, val_digs (by omega) _, val_digs (by omega) _⟩
 generalize Value.slice A3 (digs 18446744073709551616 x2).length k3 = s5 at *
 generalize Value.slice A3' (digs 18446744073709551616 y2).length k3' = s6 at *
 have hb3 := heap_alloc_new w3 (.cells #[.bool false, s5, s6] 27)
 have hA3 := Ext.alloc w3 (.cells #[.bool false, s5, s6] 27)
 generalize hV3 : w3.alloc (.cells #[.bool false, s5, s6] 27) = V3 at *
 obtain ⟨b3, hq3⟩ : ∃ b, w3.heap.size = b := ⟨_, rfl⟩
 rw [hq3] at hb3 ⊢
 replace hb1 := hA3.at_ hb1
 replace hb2 := hA3.at_ hb2
 replace Hp2 := Lib.hid (Hp2.out.ext (hE3.trans hA3))
 have Hp3 := Lib.hid (hp3.ext hA3)
 have HE4 := Lib.hid (HE3.out.trans (hE3.trans hA3))
 obtain ⟨y10, y11, y12, r10, r11, r12⟩ := pt_facts hb2
 have henc := encode_c isC1 V3 Hp2.out
 rw [enc_two, Option.getD_some, eb_len] at henc
 have Henc := Lib.hid henc
 clear hx3 hy3 hE3 hp3 hA3 hV3 hq3 Hadd HE3 henc Hp1 z10 z11 z12 q10 q11 q12
 go_upto_region 5 with (go_at_call 26; refine Henc.out.mono ?_; rintro e w4 ⟨A4, k4, rfl, hr4, hE4⟩)
 replace hb1 := hE4.at_ hb1
 replace hb3 := hE4.at_ hb3
 have HE5 := Lib.hid (HE4.out.trans hE4)
 replace Hp3 := Lib.hid (Hp3.out.ext hE4)
 have hdec := decode_c isC1 _ A4 k4 _ w4 hr4 (fun b hb => hb.2)
 rw [eb_len, dec_two] at hdec
 have Hdec := Lib.hid hdec
 clear hr4 hE4 Henc HE4 hdec hb2 y10 y11 y12 r10 r11 r12 Hp2
 go_upto_region 6 with (go_at_call 27; refine Hdec.out.mono ?_; rintro e w5 ⟨o5, rfl, ⟨A5, k5, A5', k5', rfl, hx5, hy5⟩, hE5⟩)
 replace hb1 := hE5.at_ hb1
 replace hb3 := hE5.at_ hb3
 rw [digs_x2]
 rw [show [11964737083406719352, 13873736548487404341, 9967090510939364035, 9003393950442278782].length = 4 from rfl]
 generalize Value.slice A5' (digs 18446744073709551616 y2).length k5' = s8 at *
 have hb8 := heap_alloc_new w5 (.cells #[.bool false, .slice A5 4 k5, s8] 27)
 have hA8 := Ext.alloc w5 (.cells #[.bool false, .slice A5 4 k5, s8] 27)
 generalize hV8 : w5.alloc (.cells #[.bool false, .slice A5 4 k5, s8] 27) = V8 at *
 obtain ⟨b8, hq8⟩ : ∃ b, w5.heap.size = b := ⟨_, rfl⟩
 rw [hq8] at hb8 ⊢
 have HE6 := Lib.hid (HE5.out.trans (hE5.trans hA8))
 replace Hp3 := Lib.hid (Hp3.out.ext (hE5.trans hA8))
 replace hb1 := hA8.at_ hb1
 replace hb3 := hA8.at_ hb3
 obtain ⟨z10, z11, z12, q10, q11, q12⟩ := pt_facts hb1
 clear hx5 hy5 hE5 hA8 hV8 hq8 Hdec HE5
 go_upto_region 7 with (go_at_call 30; refine (multiples_any 1 V8).mono ?_; rintro e w6 ⟨rfl, hw6⟩; have hE6 : Ext V8 w6 := (by rw [hw6]; exact (Ext.alloc _ _).trans (Ext.alloc _ _)); clear hw6)
 replace hb3 := hE6.at_ hb3
 replace hb8 := hE6.at_ hb8
 obtain ⟨y30, y31, y32, r30, r31, r32⟩ := pt_facts hb3
 obtain ⟨y80, y81, y82, r80, r81, r82⟩ := pt_facts hb8
 have hon := onx_c isC1 w6 (Hp3.out.ext hE6)
 rw [on_two] at hon
 have Hon := Lib.hid hon
 have HE7 := Lib.hid (HE6.out.trans hE6)
 have hnn := fun W => neq_nilP W (.func 65) #[] #[.pointer (some ⟨V8.heap.size, 0, none⟩), .pointer (some ⟨V8.heap.size + 1, 0, none⟩)]
 clear hb1 z10 z11 z12 q10 q11 q12 hE6 hon HE6
 go_wp2_with (first
  | (go_at_call 37; refine Hon.out.mono ?_; rintro e w7 ⟨rfl, hE7⟩; have x81 := hE7.cell y81)
  | (go_at_call 35; refine (size_c isC2 _).mono ?_; rintro e w8 ⟨rfl, hE8⟩; rw [show ((c384.size : Nat) : Int) = 48 from rfl])
  | (go_at_call 24; refine (order_c isC1 _).mono ?_; rintro e w9 ⟨A9, k9, rfl, hr9, hE9⟩; rw [nl_len]))
 go_ret
 exact ⟨rfl, ((HE7.out.trans hE7).trans hE8).trans hE9⟩
end Go.Proofs.Ytldhmjfjbalakaa

namespace Go.Proofs.Ytldhmjfjbalakaa
open Go.RowKit

def IsU (c : Int) (C : Crv) : Prop := IsC c C ∨ (c ≠ 1 ∧ c ≠ 2 ∧ C = c0)
theorem isU (c : Int) : ∃ C, IsU c C := by
 by_cases h1 : c = 1
 · exact ⟨c256, Or.inl (Or.inl ⟨h1, rfl⟩)⟩
 · by_cases h2 : c = 2
   · exact ⟨c384, Or.inl (Or.inr ⟨h2, rfl⟩)⟩
   · exact ⟨c0, Or.inr ⟨h1, h2, rfl⟩⟩
structure Crv.Norm (C : Crv) : Prop where
 p : digs 18446744073709551616 C.M = C.pl
 n : digs 18446744073709551616 (val 18446744073709551616 C.nl) = C.nl
 x : digs 18446744073709551616 (val 18446744073709551616 C.xl) = C.xl
 y : digs 18446744073709551616 (val 18446744073709551616 C.yl) = C.yl
def Crv.inf (C : Crv) : Bool := C.size == 0
theorem IsC.inf {c : Int} {C : Crv} (h : IsC c C) : C.inf = false := by
 rcases h with ⟨_, rfl⟩ | ⟨_, rfl⟩ <;> rfl
theorem six_facts {W : World} {g : Nat} {ty : TypeId} {x0 x1 x2 x3 x4 x5 : Value} (h : W.heap[g]? = some (.cells #[x0, x1, x2, x3, x4, x5] ty (0, 0))) :
 W.cell? ⟨g, 0, none⟩ = some x0 ∧ W.cell? ⟨g, 1, none⟩ = some x1 ∧ W.cell? ⟨g, 2, none⟩ = some x2 ∧ W.cell? ⟨g, 3, none⟩ = some x3 ∧ W.cell? ⟨g, 4, none⟩ = some x4 ∧ W.cell? ⟨g, 5, none⟩ = some x5 :=
 ⟨blk_cell h 0, blk_cell h 1, blk_cell h 2, blk_cell h 3, blk_cell h 4, blk_cell h 5⟩
end Go.Proofs.Ytldhmjfjbalakaa

namespace Go.Proofs.Ytldhmjfjbalakaa
open Go.RowKit

theorem ron_none {v : Value} (bi : Bool) (u1 u2 : Value) (w : World) (hc : RC w c0 v) : Calls Try.prog 16 #[v, .agg #[.bool bi, u1, u2]] w fun e w' => e = .returned (.bool false) ∧ Ext w w' := by
 obtain ⟨Ap, An, Ab, Ax, Ay, cp, cn, cb, cx, cy, rfl, h1, h2, h3, h4, h5⟩ := hc
 rw [show c0.size = 0 by rfl]
 go_enter Try.func16, Try.ntmps16
 go_wp2
 go_ret
 exact ⟨rfl, (Ext.alloc _ _).trans (Ext.alloc _ _)⟩
set_option maxRecDepth 100000 in
set_option maxHeartbeats 4000000 in
theorem point_none {c : Int} (g1 : c ≠ 1) (g2 : c ≠ 2) (A : Option Addr) (n cap : Nat) (sp : Bool) (w : World) :
 Calls Try.prog 12 #[.int .i64 c, .slice A n cap, .bool sp] w fun e w' => e = .returned (.agg #[.bool false, .slice A n cap, .slice A n cap]) ∧ Ext w w' := by
 have hr := heap_alloc_new w (.cells #[.bool false, .slice none 0 0, .slice none 0 0] 27)
 have hA0 := Ext.alloc w (.cells #[.bool false, .slice none 0 0, .slice none 0 0] 27)
 obtain ⟨W0, hW0⟩ : ∃ W0, W0 = w.alloc (.cells #[.bool false, .slice none 0 0, .slice none 0 0] 27) := ⟨_, rfl⟩
 obtain ⟨b0, hb0⟩ : ∃ b, w.heap.size = b := ⟨_, rfl⟩
 rw [← hW0, hb0] at hr
 rw [← hW0] at hA0
 have HA0 := Lib.hid hA0
 clear hA0
 go_enter Try.func12, Try.ntmps12
 go_upto_region 1 with fail
 rw [← hW0]
 have Hb0 := Lib.hid hb0
 clear hW0 hb0
 go_upto_region 2 with (go_at_call 13; refine (refOf_none g1 g2 _).mono ?_; rintro e w2 ⟨v, rfl, ⟨Ap, An, Ab, Ax, Ay, cp, cn, cb, cx, cy, rfl, hp, hn, hb, hx, hy⟩, hE2⟩)
 have hc0 := heap_alloc_new w2 (.cells #[.slice Ap (digs 4294967296 c0.M).length cp, .slice An (digs 4294967296 (val 18446744073709551616 c0.nl)).length cn, .slice Ab (digs 4294967296 c0.bb).length cb, .slice Ax (digs 4294967296 (val 18446744073709551616 c0.xl)).length cx, .slice Ay (digs 4294967296 (val 18446744073709551616 c0.yl)).length cy, .int .i64 (c0.size : Int)] 31)
 have hA := Ext.alloc w2 (.cells #[.slice Ap (digs 4294967296 c0.M).length cp, .slice An (digs 4294967296 (val 18446744073709551616 c0.nl)).length cn, .slice Ab (digs 4294967296 c0.bb).length cb, .slice Ax (digs 4294967296 (val 18446744073709551616 c0.xl)).length cx, .slice Ay (digs 4294967296 (val 18446744073709551616 c0.yl)).length cy, .int .i64 (c0.size : Int)] 31)
 replace hr := hA.at_ (hE2.at_ hr)
 have HE := Lib.hid (HA0.out.trans (hE2.trans hA))
 generalize hV1 : w2.alloc (.cells #[.slice Ap (digs 4294967296 c0.M).length cp, .slice An (digs 4294967296 (val 18446744073709551616 c0.nl)).length cn, .slice Ab (digs 4294967296 c0.bb).length cb, .slice Ax (digs 4294967296 (val 18446744073709551616 c0.xl)).length cx, .slice Ay (digs 4294967296 (val 18446744073709551616 c0.yl)).length cy, .int .i64 (c0.size : Int)] 31) = V1 at *
 obtain ⟨b1, hq1⟩ : ∃ b, w2.heap.size = b := ⟨_, rfl⟩
 rw [hq1] at hc0 ⊢
 clear hV1 hq1 hp hn hb hx hy hE2 hA HA0
 have z5 := blk_cell hc0 5
 rw [show c0.size = 0 by rfl] at z5
 obtain ⟨y0, y1, y2, f0, f1, f2⟩ := pt_facts hr
 go_wp2
 exact end_p rfl rfl rfl (pt_set hr _ _ _) ⟨rfl, pt_ext HE.out (by have := Hb0.out; omega) _ _ _⟩
end Go.Proofs.Ytldhmjfjbalakaa

namespace Go.Proofs.Ytldhmjfjbalakaa
open Go.RowKit

set_option maxRecDepth 100000 in
set_option maxHeartbeats 4000000 in
theorem onx_none {c : Int} (g1 : c ≠ 1) (g2 : c ≠ 2) (bi : Bool) (p1 p2 : Value) (w : World) :
 Calls Try.prog 37 #[.int .i64 c, .agg #[.bool bi, p1, p2]] w fun e w' => e = .returned (.bool false) ∧ Ext w w' := by
 obtain ⟨W0, hW0⟩ : ∃ W0, W0 = w.alloc (.cells #[.bool bi, p1, p2] 27) := ⟨_, rfl⟩
 obtain ⟨q, hq⟩ : ∃ q, w.heap.size = q := ⟨_, rfl⟩
 have hE0 : Ext w W0 := by rw [hW0]; exact Ext.alloc _ _
 have h1 := heap_alloc_new w (.cells #[.bool bi, p1, p2] 27)
 rw [← hW0, hq] at h1
 have HE0 := Lib.hid hE0
 clear hE0
 go_enter Try.func37, Try.ntmps37
 go_upto_region 1 with fail
 rw [← hW0]
 clear hW0 hq
 refine Par.region_ext (by kernel_rfl) 5 [0, 1, 0, 7, 15] [] (fun j f X => match j with
  | 0 => f 0 = .int .i64 c
  | 1 => f 1 = .pointer none
  | 2 => f 2 = .agg #[.bool bi, p1, p2]
  | 3 => f 3 = .bool false
  | 4 => f 4 = .bool false
  | _ => True) (by kernel_rfl) [(5, 0), (6, 1), (7, 2), (8, 3), (4, 4)] (by kernel_rfl) ?_
 refine Par.v0 1 4 ?_
 refine Par.c0 2 3 (fun f => #[f 0]) (F' := 42) (fun f X hX hR => ?_) ?_
 · have e0 : f 0 = _ := hR.out 0 rfl
   simp only [e0]
   refine (of_nil g1 g2 X).mono ?_
   rintro e w2 ⟨rfl, hB⟩
   exact ⟨_, rfl, hB, fun _ _ => rfl⟩
 refine lV0 3 2 h1 infoP ?_
 refine Par.c0 4 1 (fun f => #[f 1, f 2]) (F' := 43) (fun f X hX hR => ?_) ?_
 · have e1 : f 1 = _ := hR.out 1 rfl
   have e2 : f 2 = _ := hR.out 2 rfl
   simp only [e1, e2]
   refine (on_nil _ _ _ _).mono ?_
   rintro e w2 ⟨rfl, hB⟩
   exact ⟨_, rfl, hB, fun _ _ => rfl⟩
 refine Par.v1 5 0 3 ?_
 refine Par.AllOps.fin ⟨fun f X hX hR hal hap => ?_⟩
 have e4 : f 4 = _ := hR 4 (by decide)
 simp only [yA, yB, yD, yE, e4]
 clear hR hal hap e4
 refine Par.Chain.done ?_
 go_wp2
 go_ret
 exact ⟨rfl, HE0.out.trans hX⟩
set_option maxRecDepth 100000 in
set_option maxHeartbeats 4000000 in
theorem add_none {c : Int} (h1 : c ≠ 1) (h2 : c ≠ 2) (bi bj : Bool) (p1 p2 r1 r2 : Value) (w : World) :
 Calls Try.prog 21 #[.int .i64 c, .agg #[.bool bi, p1, p2], .agg #[.bool bj, r1, r2]] w fun e w' => e = .returned (.tuple #[infV, .bool false]) ∧ Ext w w' := by
 obtain ⟨W0, hW0⟩ : ∃ W0, W0 = ((w.alloc (.cells #[.bool bi, p1, p2] 27)).alloc (.cells #[.bool bj, r1, r2] 27)).alloc (.cells #[.bool false, .slice none 0 0, .slice none 0 0] 27) := ⟨_, rfl⟩
 obtain ⟨q, hq⟩ : ∃ q, w.heap.size = q := ⟨_, rfl⟩
 have hE0 : Ext w W0 := by rw [hW0]; exact ((Ext.alloc _ _).trans (Ext.alloc _ _)).trans (Ext.alloc _ _)
 obtain ⟨g1, g2, g3, hz0⟩ := three_p w (.cells #[.bool bi, p1, p2] 27) (.cells #[.bool bj, r1, r2] 27) (.cells #[.bool false, .slice none 0 0, .slice none 0 0] 27)
 rw [← hW0, hq] at g1 g2 g3 hz0
 have HE0 := Lib.hid hE0
 clear hE0 hz0 g2
 go_enter Try.func21, Try.ntmps21
 go_upto_region 1 with fail
 rw [← hW0]
 have Hq := Lib.hid hq
 clear hW0 hq
 go_upto_region 2 with (go_at_call 42; refine (of_nil h1 h2 _).mono ?_; rintro e wa ⟨rfl, hE1⟩)
 refine Par.region_txt 10 [0, 0, 3, 7, 15, 31, 31, 127, 255, 511] [] (fun j f X => match j with
  | 0 => f 0 = .pointer none
  | 1 => f 1 = .agg #[.bool bi, p1, p2]
  | 2 => f 2 = .bool false
  | 3 => f 3 = .bool true
  | 4 => f 4 = .bool true
  | 5 => f 5 = undef
  | 6 => f 6 = undef
  | 7 => f 7 = undef
  | 8 => f 8 = undef
  | 9 => f 9 = .bool true
  | _ => True) (by kernel_rfl) [(11, 0), (12, 1), (13, 2), (14, 3), (15, 4), (16, 5), (17, 6), (18, 7), (19, 8), (20, 9)] (by kernel_rfl) ?_
 refine Par.v0 1 9 ?_
 refine Par.S 2 8 [(11, 0)] (fun f X hX hR K hK => ?_) ?_
 · simp only [yA, yB, yC, yD, yE]
   refine ⟨Par.want (by kernel_rfl) (wp_loadV (v := .agg #[.bool bi, p1, p2]) (t := 27) 27 (.tmp 4) rfl rfl ((hE1.trans hX).at_ g1) Try.underlying27 rfl infoP rfl ?_)⟩
   exact Par.k hK (s := by simp only [yA, yB, yC, yD, yE])
 refine Par.c0 3 7 (fun f => #[f 0, f 1]) (F' := 43) (fun f X hX hR => ?_) ?_
 · have e0 : f 0 = _ := hR.out 0 rfl
   have e1 : f 1 = _ := hR.out 1 rfl
   simp only [e0, e1]
   refine (on_nil _ _ _ _).mono ?_
   rintro e w2 ⟨rfl, hB⟩
   exact ⟨_, rfl, hB, fun _ _ => rfl⟩
 refine Par.v1 4 6 2 ?_
 refine Par.v1 5 5 3 ?_
 refine Par.sk 6 4 4 ?_
 refine Par.sk 7 3 4 ?_
 refine Par.sk 8 2 4 ?_
 refine Par.sk 9 1 4 ?_
 refine Par.v2 10 0 4 8 ?_
 refine Par.AllOps.fin ⟨fun f X hX hR hal hap => ?_⟩
 have e9 : f 9 = _ := hR 9 (by decide)
 simp only [yA, yB, yD, yE, e9]
 clear hR hal hap e9
 refine Par.Chain.done ?_
 have hb1 := (hE1.trans hX).at_ g3
 go_wp2_with (go_at_call 45; refine (none_any _).mono ?_; rintro e wb ⟨rfl, hE2⟩; have hrb2 := hE2.at_ hb1; obtain ⟨z0, z1, z2, f0, f1, f2⟩ := pt_facts hrb2)
 exact end_pt rfl rfl rfl rfl (pt_set hrb2 _ _ _) ⟨rfl, pt_ext (((HE0.out.trans hE1).trans hX).trans hE2) (by have := Hq.out; omega) _ _ _⟩
set_option maxRecDepth 100000 in
set_option maxHeartbeats 4000000 in
theorem neg_none {c : Int} (g1 : c ≠ 1) (g2 : c ≠ 2) (bi : Bool) (p1 p2 : Value) (w : World) : Calls Try.prog 36 #[.int .i64 c, .agg #[.bool bi, p1, p2]] w fun e w' => e = .returned (.tuple #[infV, .bool false]) ∧ Ext w w' := by
 obtain ⟨W0, hW0⟩ : ∃ W0, W0 = (w.alloc (.cells #[.bool bi, p1, p2] 27)).alloc (.cells #[.bool false, .slice none 0 0, .slice none 0 0] 27) := ⟨_, rfl⟩
 obtain ⟨q, hq⟩ : ∃ q, w.heap.size = q := ⟨_, rfl⟩
 have hE0 : Ext w W0 := by rw [hW0]; exact (Ext.alloc _ _).trans (Ext.alloc _ _)
 obtain ⟨h1, h3, hz0⟩ := two_at2 w (.cells #[.bool bi, p1, p2] 27) (.cells #[.bool false, .slice none 0 0, .slice none 0 0] 27)
 rw [← hW0, hq] at h1 h3 hz0
 have HE0 := Lib.hid hE0
 clear hE0 hz0
 go_enter Try.func36, Try.ntmps36
 go_upto_region 1 with fail
 rw [← hW0]
 have Hq := Lib.hid hq
 clear hW0 hq
 go_upto_region 2 with (go_at_call 42; refine (of_nil g1 g2 _).mono ?_; rintro e wa ⟨rfl, hE1⟩)
 replace h1 := hE1.at_ h1
 replace h3 := hE1.at_ h3
 obtain ⟨z0, z1, z2, f0, f1, f2⟩ := pt_facts h1
 replace HE0 := Lib.hid (HE0.out.trans hE1)
 clear hE1
 go_upto_region 3 with (go_at_call 43; refine (on_nil _ _ _ _).mono ?_; rintro e wb ⟨rfl, hE2⟩)
 replace h3 := hE2.at_ h3
 replace HE0 := Lib.hid (HE0.out.trans hE2)
 clear z0 z1 z2 f0 f1 f2 hE2 h1
 go_wp2_with (go_at_call 45; refine (none_any _).mono ?_; rintro e wb ⟨rfl, hE2⟩; have hrb2 := hE2.at_ h3; obtain ⟨z0, z1, z2, f0, f1, f2⟩ := pt_facts hrb2)
 exact end_pt rfl rfl rfl rfl (pt_set hrb2 _ _ _) ⟨rfl, pt_ext (HE0.out.trans hE2) (by have := Hq.out; omega) _ _ _⟩
end Go.Proofs.Ytldhmjfjbalakaa
