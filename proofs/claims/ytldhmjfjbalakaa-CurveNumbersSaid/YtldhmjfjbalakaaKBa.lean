/- curve: Encode. curve: On, and Multiples' making. -/
import Derived.Test.YtldhmjfjbalakaaKAz
import Derived.Test.YtldhmjfjbalakaaKAx
namespace Go.Proofs.Ytldhmjfjbalakaa
open Go.RowKit

/-- What Encode answers. -/
def encC (C : Crv) (bi : Bool) (x y : Nat) : Option (List Nat) := if onQ C bi x y = true then some (if bi then [0] else 4 :: (bytesOf x C.size ++ bytesOf y C.size)) else none
theorem Crv.Fine.bits {C : Crv} (h : C.Fine) {x : Nat} (hx : x < C.M) : nbits x ≤ 8 * C.size := nbits_le (Nat.lt_of_lt_of_le (Nat.lt_trans hx h.room) (by rw [pow256]; exact Nat.le_refl _))
theorem bytesOf_len (x n : Nat) : (bytesOf x n).length = n := by simp [bytesOf]
set_option maxRecDepth 100000 in
set_option maxHeartbeats 8000000 in
theorem encode_c {c : Int} {C : Crv} (hC : IsC c C) {p : Value} {bi : Bool} {x y : Nat} (w : World) (hp : APt w p bi x y) :
 Calls Try.prog 26 #[.int .i64 c, p] w fun e w' => ∃ A1 c1, e = .returned (.tuple #[.slice A1 ((encC C bi x y).getD []).length c1, .bool (encC C bi x y).isSome]) ∧ RB w' (In w.heap.size w'.heap.size) A1 c1 ((encC C bi x y).getD []) ∧ Ext w w' := by
 obtain ⟨A, A', ca, cb, a, b, rfl, ha, hb, hx, hy⟩ := hp
 have hp : APt w (.agg #[.bool bi, .slice A a.length ca, .slice A' b.length cb]) bi x y := ⟨A, A', ca, cb, a, b, rfl, ha, hb, hx, hy⟩
 obtain ⟨W0, hW0⟩ : ∃ W0, W0 = w.alloc (.cells #[.bool bi, .slice A a.length ca, .slice A' b.length cb] 27) := ⟨_, rfl⟩
 obtain ⟨q, hq⟩ : ∃ q, w.heap.size = q := ⟨_, rfl⟩
 have hE0 : Ext w W0 := by rw [hW0]; exact Ext.alloc _ _
 have h1 := heap_alloc_new w (.cells #[.bool bi, .slice A a.length ca, .slice A' b.length cb] 27)
 rw [← hW0, hq] at h1
 have hp0 := Lib.hid (hp.ext hE0)
 have HE0 := Lib.hid hE0
 have HC := Lib.hid hC
 have Ha := Lib.hid (RN.up ha hE0)
 have Hb := Lib.hid (RN.up hb hE0)
 have Hx := Lib.hid hx
 have Hy := Lib.hid hy
 rw [hq]
 obtain ⟨res, hres⟩ : ∃ o, encC C bi x y = o := ⟨_, rfl⟩
 rw [hres]
 have Hres := Lib.hid hres
 clear hp hE0 hC hres ha hb hx hy
 go_enter Try.func26, Try.ntmps26
 go_upto_region 1 with fail
 rw [← hW0]
 have Hq := Lib.hid hq
 clear hW0 hq
 obtain ⟨o1, ho1⟩ : ∃ o, onQ C bi x y = o := ⟨_, rfl⟩
 have Ho1 := Lib.hid ho1
 clear ho1
 go_upto_region 2 with (go_at_call 42; refine (of_c HC.out _).mono ?_; rintro e wa ⟨k, rfl, hk, hE1⟩)
 have HE1 := Lib.hid hE1
 replace h1 := hE1.at_ h1
 clear hE1
 cases o1
 case false =>
  obtain rfl : res = none := by rw [← Hres.out, encC, if_neg (by rw [Ho1.out]; decide)]
  refine Par.region_txt 4 [0, 0, 3, 7] [] (fun j f X => match j with
   | 0 => f 0 = .pointer (some ⟨k, 0, none⟩)
   | 1 => f 1 = .agg #[.bool bi, .slice A a.length ca, .slice A' b.length cb]
   | 2 => f 2 = .bool false
   | 3 => f 3 = .bool true
   | _ => True) (by kernel_rfl) [(13, 0), (14, 1), (15, 2), (16, 3)] (by kernel_rfl) ?_
  refine Par.S 1 3 [(14, 1)] (fun f X hX hR K hK => ?_) ?_
  · simp only [yA, yB, yC, yD, yE]
    refine ⟨?_⟩
    go_simp
    exact Par.k hK (s := by simp only [yA, yB, yC, yD, yE])
  refine Par.S 2 2 [(13, 0)] (fun f X hX hR K hK => ?_) ?_
  · simp only [yA, yB, yC, yD, yE]
    refine ⟨Par.want (by kernel_rfl) (wp_loadV (v := .agg #[.bool bi, .slice A a.length ca, .slice A' b.length cb]) (t := 27) 27 (.tmp 3) rfl rfl (hX.at_ h1) Try.underlying27 rfl infoP rfl ?_)⟩
    exact Par.k hK (s := by simp only [yA, yB, yC, yD, yE])
  refine Par.S 3 1 [(13, 0), (14, 1)] (fun f X hX hR K hK => ?_) ?_
  · have e0 : f 0 = _ := hR.out 0 rfl
    have e1 : f 1 = _ := hR.out 1 rfl
    simp only [yA, yB, yC, yD, yE, e0, e1]
    refine ⟨?_⟩
    go_simp
    refine (on_j (hk.ext hX) HC.out.fine (hp0.out.ext (HE1.out.trans hX))).mono ?_
    rw [Ho1.out]
    rintro e w2 ⟨rfl, hB⟩
    exact hK.out _ _ _ (by simp only [yA, yB, yC, yD, yE, e0, e1]) hB trivial (fun _ _ => rfl)
  refine Par.S 4 0 [(13, 0), (14, 1), (15, 2)] (fun f X hX hR K hK => ?_) ?_
  · have e2 : f 2 = _ := hR.out 2 rfl
    simp only [yA, yB, yC, yD, yE, e2]
    refine ⟨?_⟩
    go_simp
    exact Par.k hK (s := by simp only [yA, yB, yC, yD, yE, e2])
  refine Par.AllOps.fin ⟨fun f X hX hR hal hap => ?_⟩
  have e0 : f 0 = _ := hR 0 (by decide)
  have e1 : f 1 = _ := hR 1 (by decide)
  have e2 : f 2 = _ := hR 2 (by decide)
  have e3 : f 3 = _ := hR 3 (by decide)
  simp only [yA, yB, yC, yD, yE, e0, e1, e2, e3]
  clear hR hal hap e0 e1 e2 e3
  refine Par.Chain.done ?_
  go_wp2
  go_ret2
  exact ⟨none, 0, rfl, RB.nil_ _ _, (HE0.out.trans HE1.out).trans hX⟩
 case true =>
  cases bi
  case true =>
   obtain rfl : res = some [0] := by rw [← Hres.out, encC, if_pos Ho1.out]; rfl
   refine Par.region_txt 4 [0, 0, 3, 7] [] (fun j f X => match j with
    | 0 => f 0 = .pointer (some ⟨k, 0, none⟩)
    | 1 => f 1 = .agg #[.bool true, .slice A a.length ca, .slice A' b.length cb]
    | 2 => f 2 = .bool true
    | 3 => f 3 = .bool false
    | _ => True) (by kernel_rfl) [(13, 0), (14, 1), (15, 2), (16, 3)] (by kernel_rfl) ?_
   refine Par.S 1 3 [(14, 1)] (fun f X hX hR K hK => ?_) ?_
   · simp only [yA, yB, yC, yD, yE]
     refine ⟨?_⟩
     go_simp
     exact Par.k hK (s := by simp only [yA, yB, yC, yD, yE])
   refine Par.S 2 2 [(13, 0)] (fun f X hX hR K hK => ?_) ?_
   · simp only [yA, yB, yC, yD, yE]
     refine ⟨Par.want (by kernel_rfl) (wp_loadV (v := .agg #[.bool true, .slice A a.length ca, .slice A' b.length cb]) (t := 27) 27 (.tmp 3) rfl rfl (hX.at_ h1) Try.underlying27 rfl infoP rfl ?_)⟩
     exact Par.k hK (s := by simp only [yA, yB, yC, yD, yE])
   refine Par.S 3 1 [(13, 0), (14, 1)] (fun f X hX hR K hK => ?_) ?_
   · have e0 : f 0 = _ := hR.out 0 rfl
     have e1 : f 1 = _ := hR.out 1 rfl
     simp only [yA, yB, yC, yD, yE, e0, e1]
     refine ⟨?_⟩
     go_simp
     refine (on_j (hk.ext hX) HC.out.fine (hp0.out.ext (HE1.out.trans hX))).mono ?_
     rw [Ho1.out]
     rintro e w2 ⟨rfl, hB⟩
     exact hK.out _ _ _ (by simp only [yA, yB, yC, yD, yE, e0, e1]) hB trivial (fun _ _ => rfl)
   refine Par.S 4 0 [(13, 0), (14, 1), (15, 2)] (fun f X hX hR K hK => ?_) ?_
   · have e2 : f 2 = _ := hR.out 2 rfl
     simp only [yA, yB, yC, yD, yE, e2]
     refine ⟨?_⟩
     go_simp
     exact Par.k hK (s := by simp only [yA, yB, yC, yD, yE, e2])
   refine Par.AllOps.fin ⟨fun f X hX hR hal hap => ?_⟩
   have e0 : f 0 = _ := hR 0 (by decide)
   have e1 : f 1 = _ := hR 1 (by decide)
   have e2 : f 2 = _ := hR 2 (by decide)
   have e3 : f 3 = _ := hR 3 (by decide)
   simp only [yA, yB, yC, yD, yE, e0, e1, e2, e3]
   clear hR hal hap e0 e1 e2 e3
   refine Par.Chain.done ?_
   have c0 := blk_cell (hX.at_ h1) 0
   simp only [List.getElem?_toArray, List.getElem?_cons_zero] at c0
   have HX := Lib.hid ((HE0.out.trans HE1.out).trans hX)
   clear hX h1
   rename World => X2
   have hw := OW.lit X2 0 (by omega)
   go_wp2
   go_ret2
   have := HX.out.bsize
   have := Hq.out
   exact ⟨_, _, rfl, (hw.rb (by simp)).mono (fun b hb => ⟨by have := hb.1; omega, hb.2⟩), HX.out.trans (Ext.alloc _ _)⟩
  case false =>
   obtain ⟨hxM, hyM⟩ := onQ_lt Ho1.out rfl
   obtain rfl : res = some (4 :: (bytesOf x C.size ++ bytesOf y C.size)) := by rw [← Hres.out, encC, if_pos Ho1.out]; rfl
   refine Par.region_txt 4 [0, 0, 3, 7] [] (fun j f X => match j with
    | 0 => f 0 = .pointer (some ⟨k, 0, none⟩)
    | 1 => f 1 = .agg #[.bool false, .slice A a.length ca, .slice A' b.length cb]
    | 2 => f 2 = .bool true
    | 3 => f 3 = .bool false
    | _ => True) (by kernel_rfl) [(13, 0), (14, 1), (15, 2), (16, 3)] (by kernel_rfl) ?_
   refine Par.S 1 3 [(14, 1)] (fun f X hX hR K hK => ?_) ?_
   · simp only [yA, yB, yC, yD, yE]
     refine ⟨?_⟩
     go_simp
     exact Par.k hK (s := by simp only [yA, yB, yC, yD, yE])
   refine Par.S 2 2 [(13, 0)] (fun f X hX hR K hK => ?_) ?_
   · simp only [yA, yB, yC, yD, yE]
     refine ⟨Par.want (by kernel_rfl) (wp_loadV (v := .agg #[.bool false, .slice A a.length ca, .slice A' b.length cb]) (t := 27) 27 (.tmp 3) rfl rfl (hX.at_ h1) Try.underlying27 rfl infoP rfl ?_)⟩
     exact Par.k hK (s := by simp only [yA, yB, yC, yD, yE])
   refine Par.S 3 1 [(13, 0), (14, 1)] (fun f X hX hR K hK => ?_) ?_
   · have e0 : f 0 = _ := hR.out 0 rfl
     have e1 : f 1 = _ := hR.out 1 rfl
     simp only [yA, yB, yC, yD, yE, e0, e1]
     refine ⟨?_⟩
     go_simp
     refine (on_j (hk.ext hX) HC.out.fine (hp0.out.ext (HE1.out.trans hX))).mono ?_
     rw [Ho1.out]
     rintro e w2 ⟨rfl, hB⟩
     exact hK.out _ _ _ (by simp only [yA, yB, yC, yD, yE, e0, e1]) hB trivial (fun _ _ => rfl)
   refine Par.S 4 0 [(13, 0), (14, 1), (15, 2)] (fun f X hX hR K hK => ?_) ?_
   · have e2 : f 2 = _ := hR.out 2 rfl
     simp only [yA, yB, yC, yD, yE, e2]
     refine ⟨?_⟩
     go_simp
     exact Par.k hK (s := by simp only [yA, yB, yC, yD, yE, e2])
   refine Par.AllOps.fin ⟨fun f X hX hR hal hap => ?_⟩
   have e0 : f 0 = _ := hR 0 (by decide)
   have e1 : f 1 = _ := hR 1 (by decide)
   have e2 : f 2 = _ := hR 2 (by decide)
   have e3 : f 3 = _ := hR 3 (by decide)
   simp only [yA, yB, yC, yD, yE, e0, e1, e2, e3]
   clear hR hal hap e0 e1 e2 e3
   refine Par.Chain.done ?_
   have hk2 := hk.ext hX
   have ks := hk2.size
   have HX := Lib.hid hX
   have HEX := Lib.hid ((HE0.out.trans HE1.out).trans hX)
   replace h1 := hX.at_ h1
   have c0 := blk_cell h1 0
   have c1 := blk_cell h1 1
   have c2 := blk_cell h1 2
   simp only [List.getElem?_toArray, List.getElem?_cons_zero, List.getElem?_cons_succ] at c0 c1 c2
   have HM := Lib.hid HC.out.fine
   clear hX h1
   rename World => X2
   go_upto_region 6 with fail
   refine Par.region_ext (by kernel_rfl) 12 [0, 1, 0, 4, 12, 28, 63, 127, 255, 255, 511, 2047] [] (fun j f X => match j with
    | 0 => f 0 = .pointer (some ⟨q, 1, none⟩)
    | 1 => f 1 = .slice A a.length ca
    | 2 => f 2 = .pointer (some ⟨k, 0, none⟩)
    | 3 => f 3 = .pointer (some ⟨k, 0, none⟩)
    | 4 => f 4 = .pointer (some ⟨k, 0, none⟩)
    | 5 => f 5 = .int .i64 (C.size : Int)
    | 6 => ∃ A1, f 6 = .tuple #[.slice A1 C.size C.size, .bool true] ∧ RB X (fun b => b < X.heap.size) A1 C.size (bytesOf x C.size)
    | 7 => ∃ A1, f 7 = .tuple #[.slice A1 C.size C.size, .bool true] ∧ RB X (fun b => b < X.heap.size) A1 C.size (bytesOf x C.size)
    | 8 => ∃ A1, f 8 = .slice A1 C.size C.size ∧ RB X (fun b => b < X.heap.size) A1 C.size (bytesOf x C.size)
    | 9 => f 9 = .bool true
    | 10 => ∃ A1, f 10 = .slice A1 C.size C.size ∧ RB X (fun b => b < X.heap.size) A1 C.size (bytesOf x C.size)
    | 11 => f 11 = .bool true
    | _ => True) (by kernel_rfl) [(21, 0), (22, 1), (23, 2), (24, 3), (25, 4), (26, 5), (27, 6), (20, 7), (28, 8), (29, 9), (7, 10), (8, 11)] (by kernel_rfl) ?_
   refine Par.S 1 11 [(23, 2), (24, 3), (25, 4), (26, 5)] (fun f X hX hR K hK => ?_) ?_
   · simp only [yA, yB, yC, yD, yE]
     refine ⟨?_⟩
     go_simp
     exact Par.k hK (s := by simp only [yA, yB, yC, yD, yE])
   refine Par.S 2 10 [(21, 0), (23, 2), (24, 3), (25, 4), (26, 5)] (fun f X hX hR K hK => ?_) ?_
   · have e0 : f 0 = _ := hR.out 0 rfl
     have x0 := hX.cell c1
     simp only [yA, yB, yC, yD, yE, e0]
     refine ⟨?_⟩
     go_simp
     exact Par.k hK (s := by simp only [yA, yB, yC, yD, yE, e0])
   refine Par.S 3 9 [(21, 0), (22, 1)] (fun f X hX hR K hK => ?_) ?_
   · simp only [yA, yB, yC, yD, yE]
     refine ⟨?_⟩
     go_simp
     exact Par.k hK (s := by simp only [yA, yB, yC, yD, yE])
   refine Par.S 4 8 [(21, 0), (22, 1), (23, 2)] (fun f X hX hR K hK => ?_) ?_
   · have e2 : f 2 = _ := hR.out 2 rfl
     simp only [yA, yB, yC, yD, yE, e2]
     refine ⟨?_⟩
     go_simp
     exact Par.k hK (s := by simp only [yA, yB, yC, yD, yE, e2])
   refine Par.S 5 7 [(21, 0), (22, 1), (23, 2), (24, 3)] (fun f X hX hR K hK => ?_) ?_
   · have e3 : f 3 = _ := hR.out 3 rfl
     simp only [yA, yB, yC, yD, yE, e3]
     refine ⟨?_⟩
     go_simp
     exact Par.k hK (s := by simp only [yA, yB, yC, yD, yE, e3])
   refine Par.S 6 6 [(21, 0), (22, 1), (23, 2), (24, 3), (25, 4)] (fun f X hX hR K hK => ?_) ?_
   · have e4 : f 4 = _ := hR.out 4 rfl
     have x0 := hX.cell ks
     simp only [yA, yB, yC, yD, yE, e4]
     refine ⟨?_⟩
     go_simp
     exact Par.k hK (s := by simp only [yA, yB, yC, yD, yE, e4])
   refine Par.S 7 5 [(21, 0), (22, 1), (23, 2), (24, 3), (25, 4), (26, 5)] (fun f X hX hR K hK => ?_) ?_
   · have e1 : f 1 = _ := hR.out 1 rfl
     have e5 : f 5 = _ := hR.out 5 rfl
     simp only [yA, yB, yC, yD, yE, e1, e5]
     refine ⟨?_⟩
     go_simp
     refine (bytes_yes _ A ca a C.size X (RN.up Ha.out ((HE1.out.trans HX.out).trans hX)) (fun b hb => hb) (by have := HM.out.small; omega) (by rw [Hx.out]; exact HM.out.bits hxM)).mono ?_
     rw [Hx.out]
     rintro e w2 ⟨A1, rfl, hO, hB⟩
     exact hK.out _ _ _ (by simp only [yA, yB, yC, yD, yE, e1, e5]) hB trivial (fun Y hY => ⟨A1, rfl, RB.upE (hO.mono fun b hb => hb.2) hY⟩)
   refine Par.S 8 4 [(21, 0), (22, 1), (23, 2), (24, 3), (25, 4), (26, 5), (27, 6)] (fun f X hX hR K hK => ?_) ?_
   · obtain ⟨A6, (e6 : f 6 = _), o6⟩ := hR.out 6 rfl
     simp only [yA, yB, yC, yD, yE, e6]
     refine ⟨?_⟩
     go_simp
     exact hK.out _ _ _ (by simp only [yA, yB, yC, yD, yE, e6]) (Ext.refl _) trivial (fun Y hY => ⟨A6, rfl, o6.upE hY⟩)
   refine Par.S 9 3 [(21, 0), (22, 1), (23, 2), (24, 3), (25, 4), (26, 5), (27, 6), (20, 7), (29, 9)] (fun f X hX hR K hK => ?_) ?_
   · obtain ⟨A7, (e7 : f 7 = _), o7⟩ := hR.out 7 rfl
     simp only [yA, yB, yC, yD, yE, e7]
     refine ⟨?_⟩
     go_simp
     exact hK.out _ _ _ (by simp only [yA, yB, yC, yD, yE, e7]) (Ext.refl _) trivial (fun Y hY => ⟨A7, rfl, o7.upE hY⟩)
   refine Par.S 10 2 [(21, 0), (22, 1), (23, 2), (24, 3), (25, 4), (26, 5), (27, 6), (20, 7), (28, 8), (7, 10)] (fun f X hX hR K hK => ?_) ?_
   · obtain ⟨A7, (e7 : f 7 = _), o7⟩ := hR.out 7 rfl
     simp only [yA, yB, yC, yD, yE, e7]
     refine ⟨?_⟩
     go_simp
     exact Par.k hK (s := by simp only [yA, yB, yC, yD, yE, e7])
   refine Par.S 11 1 [(21, 0), (22, 1), (23, 2), (24, 3), (25, 4), (26, 5), (27, 6), (20, 7), (28, 8), (29, 9)] (fun f X hX hR K hK => ?_) ?_
   · obtain ⟨A8, (e8 : f 8 = _), o8⟩ := hR.out 8 rfl
     simp only [yA, yB, yC, yD, yE, e8]
     refine ⟨?_⟩
     go_simp
     exact hK.out _ _ _ (by simp only [yA, yB, yC, yD, yE, e8]) (Ext.refl _) trivial (fun Y hY => ⟨A8, rfl, o8.upE hY⟩)
   refine Par.S 12 0 [(21, 0), (22, 1), (23, 2), (24, 3), (25, 4), (26, 5), (27, 6), (20, 7), (28, 8), (29, 9), (7, 10)] (fun f X hX hR K hK => ?_) ?_
   · have e9 : f 9 = _ := hR.out 9 rfl
     simp only [yA, yB, yC, yD, yE, e9]
     refine ⟨?_⟩
     go_simp
     exact Par.k hK (s := by simp only [yA, yB, yC, yD, yE, e9])
   refine Par.AllOps.fin ⟨fun f X hX hR hal hap => ?_⟩
   have e0 : f 0 = _ := hR 0 (by decide)
   have e1 : f 1 = _ := hR 1 (by decide)
   have e2 : f 2 = _ := hR 2 (by decide)
   have e3 : f 3 = _ := hR 3 (by decide)
   have e4 : f 4 = _ := hR 4 (by decide)
   have e5 : f 5 = _ := hR 5 (by decide)
   obtain ⟨A6, (e6 : f 6 = _), o6⟩ := hR 6 (by decide)
   obtain ⟨A7, (e7 : f 7 = _), o7⟩ := hR 7 (by decide)
   obtain ⟨A8, (e8 : f 8 = _), o8⟩ := hR 8 (by decide)
   have e9 : f 9 = _ := hR 9 (by decide)
   obtain ⟨Bx, (e10 : f 10 = _), o10⟩ := hR 10 (by decide)
   have e11 : f 11 = _ := hR 11 (by decide)
   simp only [yA, yB, yC, yD, yE, e0, e1, e2, e3, e4, e5, e6, e7, e8, e9, e10, e11]
   clear hR hal hap e0 e1 e2 e3 e4 e5 e6 e7 e8 e9 e10 e11
   refine Par.Chain.done ?_
   have HXY := Lib.hid hX
   replace c2 := hX.cell c2
   replace ks := hX.cell ks
   have HOx := Lib.hid o10
   clear hX o6 o7 o8 o10 c0 c1
   rename World => X3
   go_upto_region 7 with fail
   refine Par.region_ext (by kernel_rfl) 12 [0, 1, 0, 4, 12, 28, 63, 127, 255, 255, 511, 2047] [] (fun j f X => match j with
    | 0 => f 0 = .pointer (some ⟨q, 2, none⟩)
    | 1 => f 1 = .slice A' b.length cb
    | 2 => f 2 = .pointer (some ⟨k, 0, none⟩)
    | 3 => f 3 = .pointer (some ⟨k, 0, none⟩)
    | 4 => f 4 = .pointer (some ⟨k, 0, none⟩)
    | 5 => f 5 = .int .i64 (C.size : Int)
    | 6 => ∃ A1, f 6 = .tuple #[.slice A1 C.size C.size, .bool true] ∧ RB X (fun b => b < X.heap.size) A1 C.size (bytesOf y C.size)
    | 7 => ∃ A1, f 7 = .tuple #[.slice A1 C.size C.size, .bool true] ∧ RB X (fun b => b < X.heap.size) A1 C.size (bytesOf y C.size)
    | 8 => ∃ A1, f 8 = .slice A1 C.size C.size ∧ RB X (fun b => b < X.heap.size) A1 C.size (bytesOf y C.size)
    | 9 => f 9 = .bool true
    | 10 => ∃ A1, f 10 = .slice A1 C.size C.size ∧ RB X (fun b => b < X.heap.size) A1 C.size (bytesOf y C.size)
    | 11 => f 11 = .bool true
    | _ => True) (by kernel_rfl) [(31, 0), (32, 1), (33, 2), (34, 3), (35, 4), (36, 5), (37, 6), (30, 7), (38, 8), (39, 9), (9, 10), (10, 11)] (by kernel_rfl) ?_
   refine Par.S 1 11 [(33, 2), (34, 3), (35, 4), (36, 5)] (fun f X hX hR K hK => ?_) ?_
   · simp only [yA, yB, yC, yD, yE]
     refine ⟨?_⟩
     go_simp
     exact Par.k hK (s := by simp only [yA, yB, yC, yD, yE])
   refine Par.S 2 10 [(31, 0), (33, 2), (34, 3), (35, 4), (36, 5)] (fun f X hX hR K hK => ?_) ?_
   · have e0 : f 0 = _ := hR.out 0 rfl
     have x0 := hX.cell c2
     simp only [yA, yB, yC, yD, yE, e0]
     refine ⟨?_⟩
     go_simp
     exact Par.k hK (s := by simp only [yA, yB, yC, yD, yE, e0])
   refine Par.S 3 9 [(31, 0), (32, 1)] (fun f X hX hR K hK => ?_) ?_
   · simp only [yA, yB, yC, yD, yE]
     refine ⟨?_⟩
     go_simp
     exact Par.k hK (s := by simp only [yA, yB, yC, yD, yE])
   refine Par.S 4 8 [(31, 0), (32, 1), (33, 2)] (fun f X hX hR K hK => ?_) ?_
   · have e2 : f 2 = _ := hR.out 2 rfl
     simp only [yA, yB, yC, yD, yE, e2]
     refine ⟨?_⟩
     go_simp
     exact Par.k hK (s := by simp only [yA, yB, yC, yD, yE, e2])
   refine Par.S 5 7 [(31, 0), (32, 1), (33, 2), (34, 3)] (fun f X hX hR K hK => ?_) ?_
   · have e3 : f 3 = _ := hR.out 3 rfl
     simp only [yA, yB, yC, yD, yE, e3]
     refine ⟨?_⟩
     go_simp
     exact Par.k hK (s := by simp only [yA, yB, yC, yD, yE, e3])
   refine Par.S 6 6 [(31, 0), (32, 1), (33, 2), (34, 3), (35, 4)] (fun f X hX hR K hK => ?_) ?_
   · have e4 : f 4 = _ := hR.out 4 rfl
     have x0 := hX.cell ks
     simp only [yA, yB, yC, yD, yE, e4]
     refine ⟨?_⟩
     go_simp
     exact Par.k hK (s := by simp only [yA, yB, yC, yD, yE, e4])
   refine Par.S 7 5 [(31, 0), (32, 1), (33, 2), (34, 3), (35, 4), (36, 5)] (fun f X hX hR K hK => ?_) ?_
   · have e1 : f 1 = _ := hR.out 1 rfl
     have e5 : f 5 = _ := hR.out 5 rfl
     simp only [yA, yB, yC, yD, yE, e1, e5]
     refine ⟨?_⟩
     go_simp
     refine (bytes_yes _ A' cb b C.size X (RN.up Hb.out (((HE1.out.trans HX.out).trans HXY.out).trans hX)) (fun b hb => hb) (by have := HM.out.small; omega) (by rw [Hy.out]; exact HM.out.bits hyM)).mono ?_
     rw [Hy.out]
     rintro e w2 ⟨A1, rfl, hO, hB⟩
     exact hK.out _ _ _ (by simp only [yA, yB, yC, yD, yE, e1, e5]) hB trivial (fun Y hY => ⟨A1, rfl, RB.upE (hO.mono fun b hb => hb.2) hY⟩)
   refine Par.S 8 4 [(31, 0), (32, 1), (33, 2), (34, 3), (35, 4), (36, 5), (37, 6)] (fun f X hX hR K hK => ?_) ?_
   · obtain ⟨A6, (e6 : f 6 = _), o6⟩ := hR.out 6 rfl
     simp only [yA, yB, yC, yD, yE, e6]
     refine ⟨?_⟩
     go_simp
     exact hK.out _ _ _ (by simp only [yA, yB, yC, yD, yE, e6]) (Ext.refl _) trivial (fun Y hY => ⟨A6, rfl, o6.upE hY⟩)
   refine Par.S 9 3 [(31, 0), (32, 1), (33, 2), (34, 3), (35, 4), (36, 5), (37, 6), (30, 7), (39, 9)] (fun f X hX hR K hK => ?_) ?_
   · obtain ⟨A7, (e7 : f 7 = _), o7⟩ := hR.out 7 rfl
     simp only [yA, yB, yC, yD, yE, e7]
     refine ⟨?_⟩
     go_simp
     exact hK.out _ _ _ (by simp only [yA, yB, yC, yD, yE, e7]) (Ext.refl _) trivial (fun Y hY => ⟨A7, rfl, o7.upE hY⟩)
   refine Par.S 10 2 [(31, 0), (32, 1), (33, 2), (34, 3), (35, 4), (36, 5), (37, 6), (30, 7), (38, 8), (9, 10)] (fun f X hX hR K hK => ?_) ?_
   · obtain ⟨A7, (e7 : f 7 = _), o7⟩ := hR.out 7 rfl
     simp only [yA, yB, yC, yD, yE, e7]
     refine ⟨?_⟩
     go_simp
     exact Par.k hK (s := by simp only [yA, yB, yC, yD, yE, e7])
   refine Par.S 11 1 [(31, 0), (32, 1), (33, 2), (34, 3), (35, 4), (36, 5), (37, 6), (30, 7), (38, 8), (39, 9)] (fun f X hX hR K hK => ?_) ?_
   · obtain ⟨A8, (e8 : f 8 = _), o8⟩ := hR.out 8 rfl
     simp only [yA, yB, yC, yD, yE, e8]
     refine ⟨?_⟩
     go_simp
     exact hK.out _ _ _ (by simp only [yA, yB, yC, yD, yE, e8]) (Ext.refl _) trivial (fun Y hY => ⟨A8, rfl, o8.upE hY⟩)
   refine Par.S 12 0 [(31, 0), (32, 1), (33, 2), (34, 3), (35, 4), (36, 5), (37, 6), (30, 7), (38, 8), (39, 9), (9, 10)] (fun f X hX hR K hK => ?_) ?_
   · have e9 : f 9 = _ := hR.out 9 rfl
     simp only [yA, yB, yC, yD, yE, e9]
     refine ⟨?_⟩
     go_simp
     exact Par.k hK (s := by simp only [yA, yB, yC, yD, yE, e9])
   refine Par.AllOps.fin ⟨fun f X hX hR hal hap => ?_⟩
   have e0 : f 0 = _ := hR 0 (by decide)
   have e1 : f 1 = _ := hR 1 (by decide)
   have e2 : f 2 = _ := hR 2 (by decide)
   have e3 : f 3 = _ := hR 3 (by decide)
   have e4 : f 4 = _ := hR 4 (by decide)
   have e5 : f 5 = _ := hR 5 (by decide)
   obtain ⟨A6, (e6 : f 6 = _), o6⟩ := hR 6 (by decide)
   obtain ⟨A7, (e7 : f 7 = _), o7⟩ := hR 7 (by decide)
   obtain ⟨A8, (e8 : f 8 = _), o8⟩ := hR 8 (by decide)
   have e9 : f 9 = _ := hR 9 (by decide)
   obtain ⟨By, (e10 : f 10 = _), o10⟩ := hR 10 (by decide)
   have e11 : f 11 = _ := hR 11 (by decide)
   simp only [yA, yB, yC, yD, yE, e0, e1, e2, e3, e4, e5, e6, e7, e8, e9, e10, e11]
   clear hR hal hap e0 e1 e2 e3 e4 e5 e6 e7 e8 e9 e10 e11
   refine Par.Chain.done ?_
   have HXZ := Lib.hid hX
   have hx8 := Lib.hid (HOx.out.upE hX)
   have hy8 := Lib.hid o10
   clear hX o6 o7 o8 o10 c2 ks
   rename World => X4
   obtain ⟨B0, hB0⟩ : ∃ B, X4.heap.size = B := ⟨_, rfl⟩
   have hl : OW (X4.alloc (.cells #[.int .u8 4] 5)) X4.heap.size (some ⟨X4.heap.size, 0, none⟩) 1 [4] := OW.lit X4 4 (by omega)
   have hA := Ext.alloc X4 (.cells #[.int .u8 4] 5)
   have hx9 := Lib.hid ((hx8.out).below hA (fun b hb => hb))
   have hy9 := Lib.hid ((hy8.out).below hA (fun b hb => hb))
   have hz9 : (X4.alloc (.cells #[.int .u8 4] 5)).heap.size = B0 + 1 := by rw [World.size_alloc, hB0]
   have HA := Lib.hid hA
   rw [hB0] at hl
   have Hl := Lib.hid hl
   have HB0 := Lib.hid hB0
   have lx := bytesOf_len x C.size
   have ly := bytesOf_len y C.size
   have HS := Lib.hid lx
   have HT := Lib.hid ly
   have Hsm := Lib.hid HM.out.small
   have Hz9 := Lib.hid hz9
   clear hl hA hz9 lx ly
   go_upto_region 8 with fail


   go_wp2_with (at_builtin; first
    | (refine app8 rfl (.tmp 40) (.tmp 41) rfl B0 rfl Hl.out (by rw [HS.out]; rfl) hx9.out (by rw [HS.out]; have := Hsm.out; simp; omega) (by have := Hz9.out; omega) ?_; intro A1 c1 w1 hw1 hb1; have Hw1 := Lib.hid hw1; have Hb1 := Lib.hid hb1; clear hw1 hb1)
    | (refine app8 rfl (.tmp 42) (.tmp 43) rfl B0 rfl Hw1.out (by rw [HT.out]; rfl) (hy9.out.below Hb1.out (fun b hb => by have := HB0.out; omega)) (by rw [List.length_append, HS.out, HT.out]; have := Hsm.out; simp; omega) (by have := Hz9.out; have := Hb1.out.size; omega) ?_; intro A2 c2 w2 hw2 hb2; have Hw2 := Lib.hid hw2; have Hb2 := Lib.hid hb2; clear hw2 hb2))
   go_ret2
   have hEx := (HEX.out.trans HXY.out).trans HXZ.out
   have hq : q ≤ B0 := by have := hEx.bsize; have := Hq.out; omega
   have hrb := Hw2.out.rb (by rw [List.length_append, List.length_append, HS.out, HT.out]; have := Hsm.out; simp; omega)
   refine ⟨A2, c2, ?_, hrb.mono (fun b hb => ⟨by have := hb.1; omega, hb.2⟩), Below.trans (hEx.trans HA.out) (Below.mono (Hb1.out.trans Hb2.out) (by have := hEx.bsize; omega))⟩
   show _ = Ending.returned (.tuple #[.slice A2 (4 :: (bytesOf x C.size ++ bytesOf y C.size)).length c2, .bool true])
   rw [List.length_cons, List.length_append]
   rfl
end Go.Proofs.Ytldhmjfjbalakaa

namespace Go.Proofs.Ytldhmjfjbalakaa
open Go.RowKit

set_option maxRecDepth 100000 in
set_option maxHeartbeats 4000000 in
theorem onx_c {c : Int} {C : Crv} (hC : IsC c C) {p : Value} {bi : Bool} {x y : Nat} (w : World) (hp : APt w p bi x y) :
 Calls Try.prog 37 #[.int .i64 c, p] w fun e w' => e = .returned (.bool (onQ C bi x y)) ∧ Ext w w' := by
 obtain ⟨p1, p2, rfl⟩ := apt_agg hp
 obtain ⟨W0, hW0⟩ : ∃ W0, W0 = w.alloc (.cells #[.bool bi, p1, p2] 27) := ⟨_, rfl⟩
 obtain ⟨q, hq⟩ : ∃ q, w.heap.size = q := ⟨_, rfl⟩
 have hE0 : Ext w W0 := by rw [hW0]; exact Ext.alloc _ _
 have h1 := heap_alloc_new w (.cells #[.bool bi, p1, p2] 27)
 rw [← hW0, hq] at h1
 have hp0 := Lib.hid (hp.ext hE0)
 have HE0 := Lib.hid hE0
 have HC := Lib.hid hC
 obtain ⟨res, hres⟩ : ∃ o, onQ C bi x y = o := ⟨_, rfl⟩
 rw [hres]
 have Hres := Lib.hid hres
 clear hp hE0 hC hres
 go_enter Try.func37, Try.ntmps37
 go_upto_region 1 with fail
 rw [← hW0]
 clear hW0 hq
 refine Par.region_ext (by kernel_rfl) 5 [0, 1, 0, 7, 15] [] (fun j f X => match j with
  | 0 => f 0 = .int .i64 c
  | 1 => ∃ k, f 1 = .pointer (some ⟨k, 0, none⟩) ∧ OfC C X k
  | 2 => f 2 = .agg #[.bool bi, p1, p2]
  | 3 => f 3 = .bool res
  | 4 => f 4 = .bool res
  | _ => True) (by kernel_rfl) [(5, 0), (6, 1), (7, 2), (8, 3), (4, 4)] (by kernel_rfl) ?_
 refine Par.S 1 4 [(7, 2)] (fun f X hX hR K hK => ?_) ?_
 · simp only [yA, yB, yC, yD, yE]
   refine ⟨?_⟩
   go_simp
   exact Par.k hK (s := by simp only [yA, yB, yC, yD, yE])
 refine Par.S 2 3 [(5, 0), (7, 2)] (fun f X hX hR K hK => ?_) ?_
 · have e0 : f 0 = _ := hR.out 0 rfl
   simp only [yA, yB, yC, yD, yE, e0]
   refine ⟨?_⟩
   go_simp
   refine (of_c HC.out X).mono ?_
   rintro e w2 ⟨k, rfl, hk, hB⟩
   exact hK.out _ _ _ (by simp only [yA, yB, yC, yD, yE, e0]) hB trivial (fun Y hY => ⟨k, rfl, hk.ext hY⟩)
 refine Par.S 3 2 [(5, 0), (6, 1)] (fun f X hX hR K hK => ?_) ?_
 · simp only [yA, yB, yC, yD, yE]
   refine ⟨Par.want (by kernel_rfl) (wp_loadV (v := .agg #[.bool bi, p1, p2]) (t := 27) 27 (.tmp 3) rfl rfl (hX.at_ h1) Try.underlying27 rfl infoP rfl ?_)⟩
   exact Par.k hK (s := by simp only [yA, yB, yC, yD, yE])
 refine Par.S 4 1 [(5, 0), (6, 1), (7, 2)] (fun f X hX hR K hK => ?_) ?_
 · obtain ⟨k1, (e1 : f 1 = _), hk1⟩ := hR.out 1 rfl
   have e2 : f 2 = _ := hR.out 2 rfl
   simp only [yA, yB, yC, yD, yE, e1, e2]
   refine ⟨?_⟩
   go_simp
   refine (on_j hk1 HC.out.fine (hp0.out.ext hX)).mono ?_
   rw [Hres.out]
   rintro e w2 ⟨rfl, hB⟩
   exact hK.out _ _ _ (by simp only [yA, yB, yC, yD, yE, e1, e2]) hB trivial (fun _ _ => rfl)
 refine Par.S 5 0 [(5, 0), (6, 1), (7, 2), (8, 3)] (fun f X hX hR K hK => ?_) ?_
 · have e3 : f 3 = _ := hR.out 3 rfl
   simp only [yA, yB, yC, yD, yE, e3]
   refine ⟨?_⟩
   go_simp
   exact Par.k hK (s := by simp only [yA, yB, yC, yD, yE, e3])
 refine Par.AllOps.fin ⟨fun f X hX hR hal hap => ?_⟩
 have e0 : f 0 = _ := hR 0 (by decide)
 obtain ⟨k1, (e1 : f 1 = _), hk1⟩ := hR 1 (by decide)
 have e2 : f 2 = _ := hR 2 (by decide)
 have e3 : f 3 = _ := hR 3 (by decide)
 have e4 : f 4 = _ := hR 4 (by decide)
 simp only [yA, yB, yC, yD, yE, e0, e1, e2, e3, e4]
 clear hR hal hap e0 e1 e2 e3 e4
 refine Par.Chain.done ?_
 go_wp2
 go_ret
 exact ⟨rfl, HE0.out.trans hX⟩
set_option maxRecDepth 100000 in
set_option maxHeartbeats 4000000 in
theorem onx_nil {c : Int} (g1 : c ≠ 1) (g2 : c ≠ 2) {p : Value} {bi : Bool} {x y : Nat} (w : World) (hp : APt w p bi x y) :
 Calls Try.prog 37 #[.int .i64 c, p] w fun e w' => e = .returned (.bool false) ∧ Ext w w' := by
 obtain ⟨p1, p2, rfl⟩ := apt_agg hp
 obtain ⟨W0, hW0⟩ : ∃ W0, W0 = w.alloc (.cells #[.bool bi, p1, p2] 27) := ⟨_, rfl⟩
 obtain ⟨q, hq⟩ : ∃ q, w.heap.size = q := ⟨_, rfl⟩
 have hE0 : Ext w W0 := by rw [hW0]; exact Ext.alloc _ _
 have h1 := heap_alloc_new w (.cells #[.bool bi, p1, p2] 27)
 rw [← hW0, hq] at h1
 have HE0 := Lib.hid hE0
 clear hp hE0
 go_enter Try.func37, Try.ntmps37
 go_upto_region 1 with fail
 rw [← hW0]
 clear hW0 hq
 refine Par.region_ext (by kernel_rfl) 5 [0, 1, 0, 7, 15] [] (fun j f X => match j with
  | 0 => f 0 = .int .i64 c
  | 1 => f 1 = .pointer none
  | 2 => f 2 = .agg #[.bool bi, p1, p2]
  | 3 => f 3 = .bool false
  | 4 => f 4 = .bool false
  | _ => True) (by kernel_rfl) [(5, 0), (6, 1), (7, 2), (8, 3), (4, 4)] (by kernel_rfl) ?_
 refine Par.S 1 4 [(7, 2)] (fun f X hX hR K hK => ?_) ?_
 · simp only [yA, yB, yC, yD, yE]
   refine ⟨?_⟩
   go_simp
   exact Par.k hK (s := by simp only [yA, yB, yC, yD, yE])
 refine Par.S 2 3 [(5, 0), (7, 2)] (fun f X hX hR K hK => ?_) ?_
 · have e0 : f 0 = _ := hR.out 0 rfl
   simp only [yA, yB, yC, yD, yE, e0]
   refine ⟨?_⟩
   go_simp
   refine (of_nil g1 g2 X).mono ?_
   rintro e w2 ⟨rfl, hB⟩
   exact hK.out _ _ _ (by simp only [yA, yB, yC, yD, yE, e0]) hB trivial (fun _ _ => rfl)
 refine Par.S 3 2 [(5, 0), (6, 1)] (fun f X hX hR K hK => ?_) ?_
 · simp only [yA, yB, yC, yD, yE]
   refine ⟨Par.want (by kernel_rfl) (wp_loadV (v := .agg #[.bool bi, p1, p2]) (t := 27) 27 (.tmp 3) rfl rfl (hX.at_ h1) Try.underlying27 rfl infoP rfl ?_)⟩
   exact Par.k hK (s := by simp only [yA, yB, yC, yD, yE])
 refine Par.S 4 1 [(5, 0), (6, 1), (7, 2)] (fun f X hX hR K hK => ?_) ?_
 · have e1 : f 1 = _ := hR.out 1 rfl
   have e2 : f 2 = _ := hR.out 2 rfl
   simp only [yA, yB, yC, yD, yE, e1, e2]
   refine ⟨?_⟩
   go_simp
   refine (on_nil _ _ _ _).mono ?_
   rintro e w2 ⟨rfl, hB⟩
   exact hK.out _ _ _ (by simp only [yA, yB, yC, yD, yE, e1, e2]) hB trivial (fun _ _ => rfl)
 refine Par.S 5 0 [(5, 0), (6, 1), (7, 2), (8, 3)] (fun f X hX hR K hK => ?_) ?_
 · have e3 : f 3 = _ := hR.out 3 rfl
   simp only [yA, yB, yC, yD, yE, e3]
   refine ⟨?_⟩
   go_simp
   exact Par.k hK (s := by simp only [yA, yB, yC, yD, yE, e3])
 refine Par.AllOps.fin ⟨fun f X hX hR hal hap => ?_⟩
 have e0 : f 0 = _ := hR 0 (by decide)
 have e1 : f 1 = _ := hR 1 (by decide)
 have e2 : f 2 = _ := hR 2 (by decide)
 have e3 : f 3 = _ := hR 3 (by decide)
 have e4 : f 4 = _ := hR 4 (by decide)
 simp only [yA, yB, yC, yD, yE, e0, e1, e2, e3, e4]
 clear hR hal hap e0 e1 e2 e3 e4
 refine Par.Chain.done ?_
 go_wp2
 go_ret
 exact ⟨rfl, HE0.out.trans hX⟩
theorem multiples_any (c : Int) {bi : Bool} {p1 p2 : Value} (w : World) :
 Calls Try.prog 30 #[.int .i64 c, .agg #[.bool bi, p1, p2]] w fun e w' => e = .returned (.func (.func 65) #[] #[.pointer (some ⟨w.heap.size, 0, none⟩), .pointer (some ⟨w.heap.size + 1, 0, none⟩)]) ∧
  w' = (w.alloc (.cells #[.int .i64 c] 3)).alloc (.cells #[.bool bi, p1, p2] 27) := by
 go_enter Try.func30, Try.ntmps30
 go_wp2
 go_ret
 exact ⟨rfl, rfl⟩
set_option maxRecDepth 100000 in
set_option maxHeartbeats 4000000 in
theorem mul_nil {c : Int} (g1 : c ≠ 1) (g2 : c ≠ 2) {p : Value} {bi : Bool} {x y : Nat} {An : Option Addr} {cn : Nat} {n : List Nat} (w : World) (hp : APt w p bi x y) :
 Calls Try.prog 15 #[.int .i64 c, .slice An n.length cn, p] w fun e w' => e = .returned (.tuple #[infV, .bool false]) ∧ Ext w w' := by
 obtain ⟨p1, p2, rfl⟩ := apt_agg hp
 obtain ⟨W0, hW0⟩ : ∃ W0, W0 = (w.alloc (.cells #[.bool bi, p1, p2] 27)).alloc (.cells #[.bool false, .slice none 0 0, .slice none 0 0] 27) := ⟨_, rfl⟩
 obtain ⟨q, hq⟩ : ∃ q, w.heap.size = q := ⟨_, rfl⟩
 have hE0 : Ext w W0 := by rw [hW0]; exact (Ext.alloc _ _).trans (Ext.alloc _ _)
 obtain ⟨h1, h3, hz0⟩ := two_at2 w (.cells #[.bool bi, p1, p2] 27) (.cells #[.bool false, .slice none 0 0, .slice none 0 0] 27)
 rw [← hW0, hq] at h1 h3 hz0
 have HE0 := Lib.hid hE0
 clear hp hE0 hz0
 go_enter Try.func15, Try.ntmps15
 go_upto_region 1 with fail
 rw [← hW0]
 have Hq := Lib.hid hq
 clear hW0 hq
 go_upto_region 2 with (go_at_call 42; refine (of_nil g1 g2 _).mono ?_; rintro e wa ⟨rfl, hE1⟩)
 obtain ⟨b2, hb2⟩ : ∃ b, wa.heap.size = b := ⟨_, rfl⟩
 have h2 := heap_alloc_new wa (.cells #[.pointer none] 75)
 have hA := Ext.alloc wa (.cells #[.pointer none] 75)
 rw [hb2] at h2
 generalize hW1 : wa.alloc (.cells #[.pointer none] 75) = W1 at *
 rw [hb2]
 have HE1 := Lib.hid (hE1.trans hA)
 replace h1 := HE1.out.at_ h1
 replace h3 := HE1.out.at_ h3
 have ck := blk_cell h2 0
 simp only [List.getElem?_toArray, List.getElem?_cons_zero] at ck
 clear hE1 hA hb2 hW1
 refine Par.region_txt 9 [0, 0, 3, 7, 15, 31, 63, 127, 255] [] (fun j f X => match j with
  | 0 => f 0 = .pointer none
  | 1 => f 1 = .agg #[.bool bi, p1, p2]
  | 2 => f 2 = .bool false
  | 3 => f 3 = .bool true
  | 4 => f 4 = .bool true
  | 5 => f 5 = undef
  | 6 => f 6 = undef
  | 7 => f 7 = undef
  | 8 => f 8 = .bool true
  | _ => True) (by kernel_rfl) [(17, 0), (18, 1), (19, 2), (20, 3), (21, 4), (22, 5), (23, 6), (24, 7), (25, 8)] (by kernel_rfl) ?_
 refine Par.S 1 8 [(18, 1)] (fun f X hX hR K hK => ?_) ?_
 · have x0 := hX.cell ck
   simp only [yA, yB, yC, yD, yE]
   refine ⟨?_⟩
   go_simp
   exact Par.k hK (s := by simp only [yA, yB, yC, yD, yE])
 refine Par.S 2 7 [(17, 0)] (fun f X hX hR K hK => ?_) ?_
 · simp only [yA, yB, yC, yD, yE]
   refine ⟨Par.want (by kernel_rfl) (wp_loadV (v := .agg #[.bool bi, p1, p2]) (t := 27) 27 (.tmp 5) rfl rfl (hX.at_ h1) Try.underlying27 rfl infoP rfl ?_)⟩
   exact Par.k hK (s := by simp only [yA, yB, yC, yD, yE])
 refine Par.S 3 6 [(17, 0), (18, 1)] (fun f X hX hR K hK => ?_) ?_
 · have e0 : f 0 = _ := hR.out 0 rfl
   have e1 : f 1 = _ := hR.out 1 rfl
   simp only [yA, yB, yC, yD, yE, e0, e1]
   refine ⟨?_⟩
   go_simp
   refine (on_nil _ _ _ _).mono ?_
   rintro e w2 ⟨rfl, hB⟩
   exact hK.out _ _ _ (by simp only [yA, yB, yC, yD, yE, e0, e1]) hB trivial (fun _ _ => rfl)
 refine Par.S 4 5 [(17, 0), (18, 1), (19, 2)] (fun f X hX hR K hK => ?_) ?_
 · have e2 : f 2 = _ := hR.out 2 rfl
   simp only [yA, yB, yC, yD, yE, e2]
   refine ⟨?_⟩
   go_simp
   exact Par.k hK (s := by simp only [yA, yB, yC, yD, yE, e2])
 refine Par.S 5 4 [(17, 0), (18, 1), (19, 2), (20, 3)] (fun f X hX hR K hK => ?_) ?_
 · have e3 : f 3 = _ := hR.out 3 rfl
   simp only [yA, yB, yC, yD, yE, e3]
   refine ⟨?_⟩
   go_simp
   exact Par.k hK (s := by simp only [yA, yB, yC, yD, yE, e3])
 refine Par.S 6 3 [(17, 0), (18, 1), (19, 2), (20, 3), (21, 4)] (fun f X hX hR K hK => ?_) ?_
 · have e4 : f 4 = _ := hR.out 4 rfl
   simp only [yA, yB, yC, yD, yE, e4]
   refine ⟨Par.unwant (by kernel_rfl) ?_⟩
   exact hK.out _ (undef) _ (by simp only [yA, yB, yC, yD, yE, e4]) (Ext.refl _) trivial (fun _ _ => rfl)
 refine Par.S 7 2 [(17, 0), (18, 1), (19, 2), (20, 3), (21, 4), (22, 5)] (fun f X hX hR K hK => ?_) ?_
 · have e4 : f 4 = _ := hR.out 4 rfl
   have e5 : f 5 = _ := hR.out 5 rfl
   simp only [yA, yB, yC, yD, yE, e4, e5]
   refine ⟨Par.unwant (by kernel_rfl) ?_⟩
   exact hK.out _ (undef) _ (by simp only [yA, yB, yC, yD, yE, e4, e5]) (Ext.refl _) trivial (fun _ _ => rfl)
 refine Par.S 8 1 [(17, 0), (18, 1), (19, 2), (20, 3), (21, 4), (22, 5), (23, 6)] (fun f X hX hR K hK => ?_) ?_
 · have e4 : f 4 = _ := hR.out 4 rfl
   have e6 : f 6 = _ := hR.out 6 rfl
   simp only [yA, yB, yC, yD, yE, e4, e6]
   refine ⟨Par.unwant (by kernel_rfl) ?_⟩
   exact hK.out _ (undef) _ (by simp only [yA, yB, yC, yD, yE, e4, e6]) (Ext.refl _) trivial (fun _ _ => rfl)
 refine Par.S 9 0 [(17, 0), (18, 1), (19, 2), (20, 3), (21, 4), (22, 5), (23, 6), (24, 7)] (fun f X hX hR K hK => ?_) ?_
 · have e4 : f 4 = _ := hR.out 4 rfl
   have e7 : f 7 = _ := hR.out 7 rfl
   simp only [yA, yB, yC, yD, yE, e4, e7]
   refine ⟨?_⟩
   go_simp
   exact Par.k hK (s := by simp only [yA, yB, yC, yD, yE, e4, e7])
 refine Par.AllOps.fin ⟨fun f X hX hR hal hap => ?_⟩
 have e0 : f 0 = _ := hR 0 (by decide)
 have e1 : f 1 = _ := hR 1 (by decide)
 have e2 : f 2 = _ := hR 2 (by decide)
 have e3 : f 3 = _ := hR 3 (by decide)
 have e4 : f 4 = _ := hR 4 (by decide)
 have e5 : f 5 = _ := hR 5 (by decide)
 have e6 : f 6 = _ := hR 6 (by decide)
 have e7 : f 7 = _ := hR 7 (by decide)
 have e8 : f 8 = _ := hR 8 (by decide)
 simp only [yA, yB, yC, yD, yE, e0, e1, e2, e3, e4, e5, e6, e7, e8]
 clear hR hal hap e0 e1 e2 e3 e4 e5 e6 e7 e8
 refine Par.Chain.done ?_
 have hb1 := hX.at_ h3
 go_wp2_with (go_at_call 45; refine (none_any _).mono ?_; rintro e wb ⟨rfl, hE2⟩; have hrb2 := hE2.at_ hb1; obtain ⟨z0, z1, z2, f0, f1, f2⟩ := pt_facts hrb2)
 exact end_pt rfl rfl rfl rfl (pt_set hrb2 _ _ _) ⟨rfl, pt_ext (((HE0.out.trans HE1.out).trans hX).trans hE2) (by have := Hq.out; omega) _ _ _⟩
end Go.Proofs.Ytldhmjfjbalakaa
