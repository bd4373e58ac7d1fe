/- curve: a point back from three elements. curve: the numbers of a curve, and whether a point is on it. -/
import Derived.Test.YtldhmjfjbalakaaUp
import Derived.Test.YtldhmjfjbalakaaKAv
import Derived.Test.YtldhmjfjbalakaaKAq
import Derived.Deep.DeepCutAuto
namespace Go.Proofs.Ytldhmjfjbalakaa
open Go.RowKit

/-- What down reckons. -/
def downP (M x y z : Nat) : Option (Nat × Nat) := if z % M = 0 then none else let u1 := z ^ (M - 2); let u2 := mm M u1 u1; let u3 := mm M x u2; let u4 := mm M u2 u1; let u5 := mm M y u4; some (u3 % M, u5 % M)
set_option maxRecDepth 100000 in
set_option maxHeartbeats 16000000 in
theorem down_any {P0 : Nat → Prop} {k g size n inv M bb : Nat} {pl nl bl xl yl ml ol rl tl fl lx ly lz : List Nat} {Ap An Ab Ax Ay : Option Addr} {cp cn cb cx cy x y z : Nat} (w : World)
 (hk : Num w P0 k g size n inv M bb pl nl bl xl yl ml ol rl tl fl Ap An Ab Ax Ay cp cn cb cx cy) (hP0 : ∀ b, P0 b → b < w.heap.size) (hpl : pl.length < 100000) (hj : FJ M n lx ly lz x y z) :
 Calls Try.prog 50 #[.pointer (some ⟨k, 0, none⟩), JV lx ly lz] w fun e w' => ∃ v, e = .returned v ∧ PtV w' w.heap.size v (downP M x y z) ∧ Ext w w' := by
 obtain ⟨cs, hcs⟩ : ∃ cs, (nts (lx ++ ly ++ lz)).toArray = cs := ⟨_, rfl⟩
 obtain ⟨W0, hW0⟩ : ∃ W0, W0 = (w.alloc (.cells cs 83)).alloc (.cells #[.bool false, .slice none 0 0, .slice none 0 0] 27) := ⟨_, rfl⟩
 obtain ⟨q, hq⟩ : ∃ q, w.heap.size = q := ⟨_, rfl⟩
 have hE0 : Ext w W0 := by rw [hW0]; exact (Ext.alloc _ _).trans (Ext.alloc _ _)
 obtain ⟨hpj, hrb, hz0⟩ := two_at2 w (.cells cs 83) (.cells #[.bool false, .slice none 0 0, .slice none 0 0] 27)
 rw [← hW0, hq] at hpj hrb hz0
 have hpj : BlkJ W0 q lx ly lz := by rw [BlkJ, hcs]; exact hpj
 have hn := Lib.hid (hk.ext hP0 hE0)
 have hP0' : ∀ b, P0 b → b < W0.heap.size := fun b hb => Nat.lt_of_lt_of_le (hP0 b hb) hE0.bsize
 have k6 := hn.out.c_f
 have k1 := hn.out.c_p
 have hJ := Lib.hid hj
 have HE0 := Lib.hid hE0
 have Hz0 := Lib.hid hz0
 have Hpv := Lib.hid hk.pv
 have Hpl := Lib.hid hpl
 have hM1 := hk.fr.ff.big
 have Hqs := Lib.hid (show q ≤ W0.heap.size by omega)
 rw [show JV lx ly lz = .agg cs by rw [JV, hcs], hq]
 clear hE0 hz0 hk hP0 hj hcs hpl
 by_cases hz : z % M = 0
 · have hzn := Lib.hid hz
   rw [downP, if_pos hz]
   clear hz k6 k1
   go_enter Try.func50, Try.ntmps50
   go_upto_region 1 with fail
   rw [← hW0]
   have Hq := Lib.hid hq
   have HW0 := Lib.hid hW0
   have hE := Ext.refl W0
   clear hq hW0
   refine Par.region_txt 3 [0, 1, 3] [] (fun j f X => match j with
    | 0 => f 0 = .pointer (some ⟨q, 12, none⟩)
    | 1 => ∃ o, f 1 = EV o ∧ FE M n o z
    | 2 => f 2 = .bool true
    | _ => True) (by kernel_rfl) [(10, 0), (11, 1), (12, 2)] (by kernel_rfl) ?_
   refine Par.S 1 2 [] (fun f X hX hR K hK => ?_) ?_
   · simp only [yA, yB, yC, yD, yE]
     refine ⟨?_⟩
     go_simp
     exact Par.k hK (s := by simp only [yA, yB, yC, yD, yE])
   refine Par.S 2 1 [(10, 0)] (fun f X hX hR K hK => ?_) ?_
   · have e0 : f 0 = _ := hR.out 0 rfl
     simp only [yA, yB, yC, yD, yE, e0]
     refine ⟨Par.want (by kernel_rfl) (wp_loadE (.tmp 10) rfl rfl (BlkJ.rz ((hE.trans hX).at_ hpj) hJ.out.x.elt.six hJ.out.y.elt.six) hJ.out.z.elt.six ?_)⟩
     exact hK.out _ (EV lz) _ (by simp only [yA, yB, yC, yD, yE, e0]) (Ext.refl _) trivial (fun Y hY => ⟨lz, rfl, hJ.out.z⟩)
   refine Par.S 3 0 [(10, 0), (11, 1)] (fun f X hX hR K hK => ?_) ?_
   · obtain ⟨o1, (e1 : f 1 = _), h1⟩ := hR.out 1 rfl
     simp only [yA, yB, yC, yD, yE, e1]
     refine ⟨?_⟩
     go_simp
     refine (zero_any o1 X h1.elt.six).mono ?_
     rintro e w2 ⟨rfl, hB⟩
     rw [show decide (o1 = [0, 0, 0, 0, 0, 0]) = true by rw [decide_eq_decide.2 (h1.zero_iff (hn.out.ext hP0' (hE.trans hX)).fr.ff)]; exact decide_eq_true hzn.out]
     exact hK.out _ (.bool true) _ (by simp only [yA, yB, yC, yD, yE, e1]) hB trivial (fun _ _ => rfl)
   refine Par.AllOps.fin ⟨fun f X hX hR hal hap => ?_⟩
   have e0 : f 0 = _ := hR 0 (by decide)
   obtain ⟨o1, (e1 : f 1 = _), h1⟩ := hR 1 (by decide)
   have e2 : f 2 = _ := hR 2 (by decide)
   simp only [yA, yB, yC, yD, yE, e0, e1, e2]
   clear hR hal hap e0 e1 e2
   refine Par.Chain.done ?_
   have hE' := hE.trans hX
   clear hE hX 
   have hE := hE'
   clear hE'
   rename World => X1_
   go_upto_region 2 with fail
   have hb1 := hE.at_ hrb
   refine Par.region_txt 1 [0, 1] [] (fun j f X => match j with
    | 0 => f 0 = infV
    | _ => True) (by kernel_rfl) [(13, 0)] (by kernel_rfl) ?_
   refine Par.S 1 0 [] (fun f X hX hR K hK => ?_) ?_
   · simp only [yA, yB, yC, yD, yE]
     refine ⟨?_⟩
     go_simp
     refine (none_any X).mono ?_
     rintro e w2 ⟨rfl, hB⟩
     exact hK.out _ infV _ (by simp only [yA, yB, yC, yD, yE]) hB trivial (fun _ _ => rfl)
   refine Par.AllOps.fin ⟨fun f X hX hR hal hap => ?_⟩
   have e0 : f 0 = _ := hR 0 (by decide)
   simp only [yA, yB, yC, yD, yE, e0]
   clear hR hal hap e0
   refine Par.Chain.next (fun K hK => ⟨Par.want (by kernel_rfl) (wp_storeV (cs' := #[.bool true, .slice none 0 0, .slice none 0 0]) (t := 27) 27 (.tmp 4) (.tmp 13) rfl rfl rfl rfl (hX.at_ hb1) infoP rfl (pt_one _ _ _ _ _ _ _) (fun Y hY1 hY2 hY3 => hK.out _ _ ?_))⟩)
   refine Par.Chain.done ?_
   go_wp2
   exact end_p rfl rfl rfl hY1 ⟨_, rfl, rfl, hY2.ext (HE0.out.trans (hE.trans hX)) (by have := Hq.out; omega)⟩
 · have hzn := Lib.hid hz
   obtain ⟨u1, e_u1⟩ : ∃ v, z ^ (M - 2) = v := ⟨_, rfl⟩
   have E_u1 := Lib.hid e_u1
   clear e_u1
   obtain ⟨u2, e_u2⟩ : ∃ v, mm M u1 u1 = v := ⟨_, rfl⟩
   have E_u2 := Lib.hid e_u2
   clear e_u2
   obtain ⟨u3, e_u3⟩ : ∃ v, mm M x u2 = v := ⟨_, rfl⟩
   have E_u3 := Lib.hid e_u3
   clear e_u3
   obtain ⟨u4, e_u4⟩ : ∃ v, mm M u2 u1 = v := ⟨_, rfl⟩
   have E_u4 := Lib.hid e_u4
   clear e_u4
   obtain ⟨u5, e_u5⟩ : ∃ v, mm M y u4 = v := ⟨_, rfl⟩
   have E_u5 := Lib.hid e_u5
   clear e_u5
   have hres : downP M x y z = some (u3 % M, u5 % M) := by rw [downP, if_neg hz]; simp only [E_u1.out, E_u2.out, E_u3.out, E_u4.out, E_u5.out]
   rw [hres]
   clear hres hz
   go_enter Try.func50, Try.ntmps50
   go_upto_region 1 with fail
   rw [← hW0]
   have Hq := Lib.hid hq
   have HW0 := Lib.hid hW0
   have hE := Ext.refl W0
   clear hq hW0
   refine Par.region_txt 3 [0, 1, 3] [] (fun j f X => match j with
    | 0 => f 0 = .pointer (some ⟨q, 12, none⟩)
    | 1 => ∃ o, f 1 = EV o ∧ FE M n o z
    | 2 => f 2 = .bool false
    | _ => True) (by kernel_rfl) [(10, 0), (11, 1), (12, 2)] (by kernel_rfl) ?_
   refine Par.S 1 2 [] (fun f X hX hR K hK => ?_) ?_
   · simp only [yA, yB, yC, yD, yE]
     refine ⟨?_⟩
     go_simp
     exact Par.k hK (s := by simp only [yA, yB, yC, yD, yE])
   refine Par.S 2 1 [(10, 0)] (fun f X hX hR K hK => ?_) ?_
   · have e0 : f 0 = _ := hR.out 0 rfl
     simp only [yA, yB, yC, yD, yE, e0]
     refine ⟨Par.want (by kernel_rfl) (wp_loadE (.tmp 10) rfl rfl (BlkJ.rz ((hE.trans hX).at_ hpj) hJ.out.x.elt.six hJ.out.y.elt.six) hJ.out.z.elt.six ?_)⟩
     exact hK.out _ (EV lz) _ (by simp only [yA, yB, yC, yD, yE, e0]) (Ext.refl _) trivial (fun Y hY => ⟨lz, rfl, hJ.out.z⟩)
   refine Par.S 3 0 [(10, 0), (11, 1)] (fun f X hX hR K hK => ?_) ?_
   · obtain ⟨o1, (e1 : f 1 = _), h1⟩ := hR.out 1 rfl
     simp only [yA, yB, yC, yD, yE, e1]
     refine ⟨?_⟩
     go_simp
     refine (zero_any o1 X h1.elt.six).mono ?_
     rintro e w2 ⟨rfl, hB⟩
     rw [show decide (o1 = [0, 0, 0, 0, 0, 0]) = false by rw [decide_eq_decide.2 (h1.zero_iff (hn.out.ext hP0' (hE.trans hX)).fr.ff)]; exact decide_eq_false hzn.out]
     exact hK.out _ (.bool false) _ (by simp only [yA, yB, yC, yD, yE, e1]) hB trivial (fun _ _ => rfl)
   refine Par.AllOps.fin ⟨fun f X hX hR hal hap => ?_⟩
   have e0 : f 0 = _ := hR 0 (by decide)
   obtain ⟨o1, (e1 : f 1 = _), h1⟩ := hR 1 (by decide)
   have e2 : f 2 = _ := hR 2 (by decide)
   simp only [yA, yB, yC, yD, yE, e0, e1, e2]
   clear hR hal hap e0 e1 e2
   refine Par.Chain.done ?_
   have hE' := hE.trans hX
   clear hE hX 
   have hE := hE'
   clear hE'
   rename World => X1_
   have k6' := hE.cell k6
   have k1' := hE.cell k1
   go_upto_region 4 with fail
   clear k6'
   refine Par.region_ext (by kernel_rfl) 11 [0, 1, 3, 7, 0, 31, 63, 127, 127, 255, 1023] [] (fun j f X => match j with
    | 0 => f 0 = .pointer (some ⟨k, 0, none⟩)
    | 1 => f 1 = .pointer (some ⟨k, 0, none⟩)
    | 2 => f 2 = .pointer (some ⟨k, 1, none⟩)
    | 3 => f 3 = .slice Ap pl.length cp
    | 4 => ∃ A1 c1, f 4 = .slice A1 (digs 18446744073709551616 2).length c1 ∧ OB X q A1 c1 (digs 18446744073709551616 2)
    | 5 => ∃ A1 c1, f 5 = .tuple #[.slice A1 (digs 18446744073709551616 (M - 2)).length c1, .bool true] ∧ OB X q A1 c1 (digs 18446744073709551616 (M - 2))
    | 6 => ∃ A1 c1, f 6 = .tuple #[.slice A1 (digs 18446744073709551616 (M - 2)).length c1, .bool true] ∧ OB X q A1 c1 (digs 18446744073709551616 (M - 2))
    | 7 => ∃ A1 c1, f 7 = .slice A1 (digs 18446744073709551616 (M - 2)).length c1 ∧ OB X q A1 c1 (digs 18446744073709551616 (M - 2))
    | 8 => f 8 = .bool true
    | 9 => ∃ A1 c1, f 9 = .slice A1 (digs 18446744073709551616 (M - 2)).length c1 ∧ OB X q A1 c1 (digs 18446744073709551616 (M - 2))
    | 10 => f 10 = .bool true
    | _ => True) (by kernel_rfl) [(19, 0), (20, 1), (21, 2), (22, 3), (23, 4), (24, 5), (18, 6), (25, 7), (26, 8), (6, 9), (7, 10)] (by kernel_rfl) ?_
   refine Par.S 1 10 [(23, 4)] (fun f X hX hR K hK => ?_) ?_
   · simp only [yA, yB, yC, yD, yE]
     refine ⟨?_⟩
     go_simp
     exact Par.k hK (s := by simp only [yA, yB, yC, yD, yE])
   refine Par.S 2 9 [(19, 0), (23, 4)] (fun f X hX hR K hK => ?_) ?_
   · have e0 : f 0 = _ := hR.out 0 rfl
     simp only [yA, yB, yC, yD, yE, e0]
     refine ⟨?_⟩
     go_simp
     exact Par.k hK (s := by simp only [yA, yB, yC, yD, yE, e0])
   refine Par.S 3 8 [(19, 0), (20, 1), (23, 4)] (fun f X hX hR K hK => ?_) ?_
   · have e1 : f 1 = _ := hR.out 1 rfl
     simp only [yA, yB, yC, yD, yE, e1]
     refine ⟨?_⟩
     go_simp
     exact Par.k hK (s := by simp only [yA, yB, yC, yD, yE, e1])
   refine Par.S 4 7 [(19, 0), (20, 1), (21, 2), (23, 4)] (fun f X hX hR K hK => ?_) ?_
   · have e2 : f 2 = _ := hR.out 2 rfl
     have x0 := hX.cell k1'
     simp only [yA, yB, yC, yD, yE, e2]
     refine ⟨?_⟩
     go_simp
     exact Par.k hK (s := by simp only [yA, yB, yC, yD, yE, e2])
   refine Par.S 5 6 [(19, 0), (20, 1), (21, 2), (22, 3)] (fun f X hX hR K hK => ?_) ?_
   · simp only [yA, yB, yC, yD, yE]
     refine ⟨?_⟩
     go_simp
     refine (of_any 2 X (by omega)).mono ?_
     rintro e w2 ⟨A1, c1, rfl, hO, hB⟩
     exact hK.out _ _ _ (by simp only [yA, yB, yC, yD, yE]) hB trivial (fun Y hY => ⟨A1, c1, rfl, (hO.mono (Nat.le_trans Hqs.out (hE.trans hX).bsize)).below hY (Nat.le_refl _)⟩)
   refine Par.S 6 5 [(19, 0), (20, 1), (21, 2), (22, 3), (23, 4)] (fun f X hX hR K hK => ?_) ?_
   · have e3 : f 3 = _ := hR.out 3 rfl
     obtain ⟨A4, c4, (e4 : f 4 = _), o4⟩ := hR.out 4 rfl
     simp only [yA, yB, yC, yD, yE, e3, e4]
     refine ⟨?_⟩
     go_simp
     refine (sub_yes P0 _ Ap A4 cp c4 pl _ X (hn.out.ext hP0' (hE.trans hX)).p o4.rn (fun b hb => Nat.lt_of_lt_of_le (hP0' b hb) (hE.trans hX).bsize) (fun b hb => hb.2) Hpl.out (by rw [Hpv.out, val_digs (by omega)]; omega)).mono ?_
     rw [Hpv.out, val_digs (by omega)]
     rintro e w2 ⟨A1, c1, rfl, hO, hB⟩
     exact hK.out _ _ _ (by simp only [yA, yB, yC, yD, yE, e3, e4]) hB trivial (fun Y hY => ⟨A1, c1, rfl, (hO.mono (Nat.le_trans Hqs.out (hE.trans hX).bsize)).below hY (Nat.le_refl _)⟩)
   refine Par.S 7 4 [(19, 0), (20, 1), (21, 2), (22, 3), (23, 4), (24, 5)] (fun f X hX hR K hK => ?_) ?_
   · obtain ⟨A5, c5, (e5 : f 5 = _), o5⟩ := hR.out 5 rfl
     simp only [yA, yB, yC, yD, yE, e5]
     refine ⟨?_⟩
     go_simp
     exact hK.out _ _ _ (by simp only [yA, yB, yC, yD, yE, e5]) (Ext.refl _) trivial (fun Y hY => ⟨A5, c5, rfl, o5.below (hY) (Nat.le_refl _)⟩)
   refine Par.S 8 3 [(19, 0), (20, 1), (21, 2), (22, 3), (23, 4), (24, 5), (18, 6), (26, 8)] (fun f X hX hR K hK => ?_) ?_
   · obtain ⟨A6, c6, (e6 : f 6 = _), o6⟩ := hR.out 6 rfl
     simp only [yA, yB, yC, yD, yE, e6]
     refine ⟨?_⟩
     go_simp
     exact hK.out _ _ _ (by simp only [yA, yB, yC, yD, yE, e6]) (Ext.refl _) trivial (fun Y hY => ⟨A6, c6, rfl, o6.below (hY) (Nat.le_refl _)⟩)
   refine Par.S 9 2 [(19, 0), (20, 1), (21, 2), (22, 3), (23, 4), (24, 5), (18, 6), (25, 7), (6, 9)] (fun f X hX hR K hK => ?_) ?_
   · obtain ⟨A6, c6, (e6 : f 6 = _), o6⟩ := hR.out 6 rfl
     simp only [yA, yB, yC, yD, yE, e6]
     refine ⟨?_⟩
     go_simp
     exact Par.k hK (s := by simp only [yA, yB, yC, yD, yE, e6])
   refine Par.S 10 1 [(19, 0), (20, 1), (21, 2), (22, 3), (23, 4), (24, 5), (18, 6), (25, 7), (26, 8)] (fun f X hX hR K hK => ?_) ?_
   · obtain ⟨A7, c7, (e7 : f 7 = _), o7⟩ := hR.out 7 rfl
     simp only [yA, yB, yC, yD, yE, e7]
     refine ⟨?_⟩
     go_simp
     exact hK.out _ _ _ (by simp only [yA, yB, yC, yD, yE, e7]) (Ext.refl _) trivial (fun Y hY => ⟨A7, c7, rfl, o7.below (hY) (Nat.le_refl _)⟩)
   refine Par.S 11 0 [(19, 0), (20, 1), (21, 2), (22, 3), (23, 4), (24, 5), (18, 6), (25, 7), (26, 8), (6, 9)] (fun f X hX hR K hK => ?_) ?_
   · have e8 : f 8 = _ := hR.out 8 rfl
     simp only [yA, yB, yC, yD, yE, e8]
     refine ⟨?_⟩
     go_simp
     exact Par.k hK (s := by simp only [yA, yB, yC, yD, yE, e8])
   refine Par.AllOps.fin ⟨fun f X hX hR hal hap => ?_⟩
   have e0 : f 0 = _ := hR 0 (by decide)
   have e1 : f 1 = _ := hR 1 (by decide)
   have e2 : f 2 = _ := hR 2 (by decide)
   have e3 : f 3 = _ := hR 3 (by decide)
   obtain ⟨A4, c4, (e4 : f 4 = _), o4⟩ := hR 4 (by decide)
   obtain ⟨A5, c5, (e5 : f 5 = _), o5⟩ := hR 5 (by decide)
   obtain ⟨A6, c6, (e6 : f 6 = _), o6⟩ := hR 6 (by decide)
   obtain ⟨A7, c7, (e7 : f 7 = _), o7⟩ := hR 7 (by decide)
   have e8 : f 8 = _ := hR 8 (by decide)
   obtain ⟨A9, c9, (e9 : f 9 = _), o9⟩ := hR 9 (by decide)
   have e10 : f 10 = _ := hR 10 (by decide)
   simp only [yA, yB, yC, yD, yE, e0, e1, e2, e3, e4, e5, e6, e7, e8, e9, e10]
   clear hR hal hap e0 e1 e2 e3 e4 e5 e6 e7 e8 e9 e10
   refine Par.Chain.done ?_
   have hE' := hE.trans hX
   have hL := o9
   rename World => X4_
   clear hE hX k1' o4 o5 o6 o7 o9
   have hE := hE'
   clear hE'
   go_upto_region 5 with fail
   refine Par.region_txt 6 [0, 0, 2, 0, 15, 0, 63] [5] (fun j f X => match j with
    | 0 => f 0 = .pointer (some ⟨g, 0, none⟩)
    | 1 => f 1 = .pointer (some ⟨q, 12, none⟩)
    | 2 => ∃ o, f 2 = EV o ∧ FE M n o z
    | 3 => f 3 = .slice A9 (digs 18446744073709551616 (M - 2)).length c9
    | 4 => ∃ o, f 4 = EV o ∧ FE M n o u1
    | 5 => ∃ b, f 5 = .pointer (some ⟨b, 0, none⟩) ∧ X4_.heap.size ≤ b ∧ X.heap[b]? = some (.cells #[.int .u64 0, .int .u64 0, .int .u64 0, .int .u64 0, .int .u64 0, .int .u64 0] 81 (0, 0))
    | _ => True) (by kernel_rfl) [(27, 0), (28, 1), (29, 2), (30, 3), (31, 4), (8, 5)] (by kernel_rfl) ?_
   refine Par.S 1 5 [(28, 1), (29, 2), (30, 3), (8, 5)] (fun f X hX hR K hK => ?_) ?_
   · simp only [yA, yB, yC, yD, yE]
     refine ⟨?_⟩
     go_simp
     exact Par.k hK (s := by simp only [yA, yB, yC, yD, yE])
   refine Par.S 2 4 [(27, 0), (30, 3), (8, 5)] (fun f X hX hR K hK => ?_) ?_
   · simp only [yA, yB, yC, yD, yE]
     refine ⟨?_⟩
     go_simp
     exact Par.k hK (s := by simp only [yA, yB, yC, yD, yE])
   refine Par.S 3 3 [(27, 0), (28, 1), (30, 3), (8, 5)] (fun f X hX hR K hK => ?_) ?_
   · have e1 : f 1 = _ := hR.out 1 rfl
     simp only [yA, yB, yC, yD, yE, e1]
     refine ⟨Par.want (by kernel_rfl) (wp_loadE (.tmp 28) rfl rfl (BlkJ.rz ((hE.trans hX).at_ hpj) hJ.out.x.elt.six hJ.out.y.elt.six) hJ.out.z.elt.six ?_)⟩
     exact hK.out _ (EV lz) _ (by simp only [yA, yB, yC, yD, yE, e1]) (Ext.refl _) trivial (fun Y hY => ⟨lz, rfl, hJ.out.z⟩)
   refine Par.S 4 2 [(27, 0), (28, 1), (29, 2), (8, 5)] (fun f X hX hR K hK => ?_) ?_
   · simp only [yA, yB, yC, yD, yE]
     refine ⟨?_⟩
     go_simp
     exact Par.k hK (s := by simp only [yA, yB, yC, yD, yE])
   refine Par.S 5 1 [(27, 0), (28, 1), (29, 2), (30, 3), (8, 5)] (fun f X hX hR K hK => ?_) ?_
   · have e0 : f 0 = _ := hR.out 0 rfl
     obtain ⟨o2, (e2 : f 2 = _), h2⟩ := hR.out 2 rfl
     have e3 : f 3 = _ := hR.out 3 rfl
     simp only [yA, yB, yC, yD, yE, e0, e2, e3]
     refine ⟨?_⟩
     go_simp
     refine (zexp_any X (hn.out.ext hP0' (hE.trans hX)).fr hn.out.fr.fone z (M - 2) h2 _ A9 c9 _ (hL.below hX (Nat.le_refl _)).rn (fun b hb => hb.2) (val_digs (by omega) _)).mono ?_
     rw [E_u1.out]
     rintro e w2 ⟨o, rfl, ho, hB⟩
     exact hK.out _ (EV o) _ (by simp only [yA, yB, yC, yD, yE, e0, e2, e3]) hB trivial (fun Y hY => ⟨o, rfl, ho⟩)
   refine Par.S 6 0 [(27, 0), (28, 1), (29, 2), (30, 3), (31, 4)] (fun f X hX hR K hK => ?_) ?_
   · simp only [yA, yB, yC, yD, yE]
     refine ⟨?_⟩
     go_simp
     exact hK.out _ _ _ (by simp only [yA, yB, yC, yD, yE]) (Ext.alloc _ _) ⟨rfl, by simp⟩ (fun Y hY => ⟨_, rfl, hX.bsize, hY.at_ (heap_alloc_new _ _)⟩)
   refine Par.AllOps.fin ⟨fun f X hX hR hal hap => ?_⟩
   have e0 : f 0 = _ := hR 0 (by decide)
   have e1 : f 1 = _ := hR 1 (by decide)
   obtain ⟨o2, (e2 : f 2 = _), h2⟩ := hR 2 (by decide)
   have e3 : f 3 = _ := hR 3 (by decide)
   obtain ⟨o4, (e4 : f 4 = _), h4⟩ := hR 4 (by decide)
   obtain ⟨br5_5, (e5 : f 5 = _), lr5_5, hr5_5⟩ := hR 5 (by decide)
   simp only [yA, yB, yC, yD, yE, e0, e1, e2, e3, e4, e5]
   clear hR hal hap e0 e1 e2 e3 e4 e5
   refine Par.Chain.next (fun K hK => ⟨Par.want (by kernel_rfl) (wp_storeE (.tmp 8) (.tmp 31) rfl rfl rfl rfl (hr5_5) zero6 h4.elt.six (fun Y2_6 hl2_6 => hK.out _ _ ?_))⟩)
   refine Par.Chain.done ?_
   have vbr5_5 : VE Y2_6 M n br5_5 u1 := (hl2_6.mk' h4)
   have lb_vbr5_5 := Nat.le_trans hE.bsize lr5_5
   have hE' : Ext W0 Y2_6 := (hl2_6.ext (hE.trans hX) (Nat.le_trans hE.bsize lr5_5))
   clear hE hX hl2_6 h2 h4 
   have hE := hE'
   clear hE'
   go_upto_region 6 with fail
   refine Par.region_txt 5 [0, 0, 0, 7, 0, 31] [4] (fun j f X => match j with
    | 0 => f 0 = .pointer (some ⟨g, 0, none⟩)
    | 1 => ∃ o, f 1 = EV o ∧ FE M n o u1
    | 2 => ∃ o, f 2 = EV o ∧ FE M n o u1
    | 3 => ∃ o, f 3 = EV o ∧ FE M n o u2
    | 4 => ∃ b, f 4 = .pointer (some ⟨b, 0, none⟩) ∧ Y2_6.heap.size ≤ b ∧ X.heap[b]? = some (.cells #[.int .u64 0, .int .u64 0, .int .u64 0, .int .u64 0, .int .u64 0, .int .u64 0] 81 (0, 0))
    | _ => True) (by kernel_rfl) [(32, 0), (33, 1), (34, 2), (35, 3), (9, 4)] (by kernel_rfl) ?_
   refine Par.S 1 4 [(33, 1), (34, 2), (9, 4)] (fun f X hX hR K hK => ?_) ?_
   · simp only [yA, yB, yC, yD, yE]
     refine ⟨?_⟩
     go_simp
     exact Par.k hK (s := by simp only [yA, yB, yC, yD, yE])
   refine Par.S 2 3 [(32, 0), (34, 2), (9, 4)] (fun f X hX hR K hK => ?_) ?_
   · obtain ⟨o, hbl, ho⟩ := vbr5_5.ext hX
     simp only [yA, yB, yC, yD, yE]
     refine ⟨Par.want (by kernel_rfl) (wp_loadE (.tmp 8) rfl rfl hbl.range ho.elt.six ?_)⟩
     exact hK.out _ (EV o) _ (by simp only [yA, yB, yC, yD, yE]) (Ext.refl _) trivial (fun Y hY => ⟨o, rfl, ho⟩)
   refine Par.S 3 2 [(32, 0), (33, 1), (9, 4)] (fun f X hX hR K hK => ?_) ?_
   · obtain ⟨o, hbl, ho⟩ := vbr5_5.ext hX
     simp only [yA, yB, yC, yD, yE]
     refine ⟨Par.want (by kernel_rfl) (wp_loadE (.tmp 8) rfl rfl hbl.range ho.elt.six ?_)⟩
     exact hK.out _ (EV o) _ (by simp only [yA, yB, yC, yD, yE]) (Ext.refl _) trivial (fun Y hY => ⟨o, rfl, ho⟩)
   refine Par.S 4 1 [(32, 0), (33, 1), (34, 2), (9, 4)] (fun f X hX hR K hK => ?_) ?_
   · have e0 : f 0 = _ := hR.out 0 rfl
     obtain ⟨o1, (e1 : f 1 = _), h1⟩ := hR.out 1 rfl
     obtain ⟨o2, (e2 : f 2 = _), h2⟩ := hR.out 2 rfl
     simp only [yA, yB, yC, yD, yE, e0, e1, e2]
     refine ⟨?_⟩
     go_simp
     refine (fm_any X (hn.out.ext hP0' (hE.trans hX)).fr.ff h1 h2).mono ?_
     rw [E_u2.out]
     rintro e w2 ⟨o, rfl, ho, hB⟩
     exact hK.out _ (EV o) _ (by simp only [yA, yB, yC, yD, yE, e0, e1, e2]) hB trivial (fun Y hY => ⟨o, rfl, ho⟩)
   refine Par.S 5 0 [(32, 0), (33, 1), (34, 2), (35, 3)] (fun f X hX hR K hK => ?_) ?_
   · simp only [yA, yB, yC, yD, yE]
     refine ⟨?_⟩
     go_simp
     exact hK.out _ _ _ (by simp only [yA, yB, yC, yD, yE]) (Ext.alloc _ _) ⟨rfl, by simp⟩ (fun Y hY => ⟨_, rfl, hX.bsize, hY.at_ (heap_alloc_new _ _)⟩)
   refine Par.AllOps.fin ⟨fun f X hX hR hal hap => ?_⟩
   have e0 : f 0 = _ := hR 0 (by decide)
   obtain ⟨o1, (e1 : f 1 = _), h1⟩ := hR 1 (by decide)
   obtain ⟨o2, (e2 : f 2 = _), h2⟩ := hR 2 (by decide)
   obtain ⟨o3, (e3 : f 3 = _), h3⟩ := hR 3 (by decide)
   obtain ⟨br6_4, (e4 : f 4 = _), lr6_4, hr6_4⟩ := hR 4 (by decide)
   simp only [yA, yB, yC, yD, yE, e0, e1, e2, e3, e4]
   clear hR hal hap e0 e1 e2 e3 e4
   refine Par.Chain.next (fun K hK => ⟨Par.want (by kernel_rfl) (wp_storeE (.tmp 9) (.tmp 35) rfl rfl rfl rfl (hr6_4) zero6 h3.elt.six (fun Y3_5 hl3_5 => hK.out _ _ ?_))⟩)
   refine Par.Chain.done ?_
   have d_br5_5_br6_4 : br5_5 ≠ br6_4 := by have := (let ⟨_, h, _⟩ := vbr5_5; h.lt : br5_5 < Y2_6.heap.size); omega
   have vbr5_5' := (hl3_5.ve d_br5_5_br6_4 (vbr5_5.ext hX))
   have vbr6_4 : VE Y3_5 M n br6_4 u2 := (hl3_5.mk' h3)
   have lb_vbr6_4 := Nat.le_trans hE.bsize lr6_4
   have hE' : Ext W0 Y3_5 := (hl3_5.ext (hE.trans hX) (Nat.le_trans hE.bsize lr6_4))
   clear hE hX hl3_5 h1 h2 h3 vbr5_5
   have hE := hE'
   clear hE'
   have vbr5_5 := vbr5_5'
   clear vbr5_5'
   have hb1 := hE.at_ hrb
   go_upto_region 7 with fail
   refine Par.region_ext (by kernel_rfl) 18 [0, 0, 0, 4, 0, 30, 63, 0, 0, 0, 512, 0, 0, 0, 14463, 32639, 65535, 131071, 262143] [] (fun j f X => match j with
    | 0 => f 0 = .pointer (some ⟨g, 0, none⟩)
    | 1 => f 1 = .pointer (some ⟨g, 0, none⟩)
    | 2 => f 2 = .pointer (some ⟨q, 0, none⟩)
    | 3 => ∃ o, f 3 = EV o ∧ FE M n o x
    | 4 => ∃ o, f 4 = EV o ∧ FE M n o u2
    | 5 => ∃ o, f 5 = EV o ∧ FE M n o u3
    | 6 => ∃ A1 c1, f 6 = .slice A1 (digs 18446744073709551616 (u3 % M)).length c1 ∧ OB X q A1 c1 (digs 18446744073709551616 (u3 % M))
    | 7 => f 7 = .pointer (some ⟨g, 0, none⟩)
    | 8 => f 8 = .pointer (some ⟨g, 0, none⟩)
    | 9 => f 9 = .pointer (some ⟨q, 6, none⟩)
    | 10 => ∃ o, f 10 = EV o ∧ FE M n o y
    | 11 => f 11 = .pointer (some ⟨g, 0, none⟩)
    | 12 => ∃ o, f 12 = EV o ∧ FE M n o u2
    | 13 => ∃ o, f 13 = EV o ∧ FE M n o u1
    | 14 => ∃ o, f 14 = EV o ∧ FE M n o u4
    | 15 => ∃ o, f 15 = EV o ∧ FE M n o u5
    | 16 => ∃ A1 c1, f 16 = .slice A1 (digs 18446744073709551616 (u5 % M)).length c1 ∧ OB X q A1 c1 (digs 18446744073709551616 (u5 % M))
    | 17 => ∃ A1 c1 A2 c2, f 17 = .agg #[.bool false, .slice A1 (digs 18446744073709551616 (u3 % M)).length c1, .slice A2 (digs 18446744073709551616 (u5 % M)).length c2] ∧ OB X q A1 c1 (digs 18446744073709551616 (u3 % M)) ∧ OB X q A2 c2 (digs 18446744073709551616 (u5 % M))
    | _ => True) (by kernel_rfl) [(36, 0), (37, 1), (38, 2), (39, 3), (40, 4), (41, 5), (42, 6), (43, 7), (44, 8), (45, 9), (46, 10), (47, 11), (48, 12), (49, 13), (50, 14), (51, 15), (52, 16), (53, 17)] (by kernel_rfl) ?_
   refine Par.S 1 17 [(37, 1), (38, 2), (39, 3), (40, 4), (41, 5), (43, 7), (44, 8), (45, 9), (46, 10), (47, 11), (48, 12), (49, 13)] (fun f X hX hR K hK => ?_) ?_
   · simp only [yA, yB, yC, yD, yE]
     refine ⟨?_⟩
     go_simp
     exact Par.k hK (s := by simp only [yA, yB, yC, yD, yE])
   refine Par.S 2 16 [(36, 0), (38, 2), (39, 3), (40, 4), (43, 7), (44, 8), (45, 9), (46, 10), (47, 11), (48, 12), (49, 13)] (fun f X hX hR K hK => ?_) ?_
   · simp only [yA, yB, yC, yD, yE]
     refine ⟨?_⟩
     go_simp
     exact Par.k hK (s := by simp only [yA, yB, yC, yD, yE])
   refine Par.S 3 15 [(36, 0), (37, 1), (40, 4), (43, 7), (44, 8), (45, 9), (46, 10), (47, 11), (48, 12), (49, 13)] (fun f X hX hR K hK => ?_) ?_
   · simp only [yA, yB, yC, yD, yE]
     refine ⟨?_⟩
     go_simp
     exact Par.k hK (s := by simp only [yA, yB, yC, yD, yE])
   refine Par.S 4 14 [(36, 0), (37, 1), (38, 2), (40, 4), (43, 7), (44, 8), (45, 9), (46, 10), (47, 11), (48, 12), (49, 13)] (fun f X hX hR K hK => ?_) ?_
   · have e2 : f 2 = _ := hR.out 2 rfl
     simp only [yA, yB, yC, yD, yE, e2]
     refine ⟨Par.want (by kernel_rfl) (wp_loadE (.tmp 38) rfl rfl (BlkJ.rx ((hE.trans hX).at_ hpj)) hJ.out.x.elt.six ?_)⟩
     exact hK.out _ (EV lx) _ (by simp only [yA, yB, yC, yD, yE, e2]) (Ext.refl _) trivial (fun Y hY => ⟨lx, rfl, hJ.out.x⟩)
   refine Par.S 5 13 [(36, 0), (37, 1), (38, 2), (39, 3), (43, 7), (44, 8), (45, 9), (46, 10), (47, 11), (48, 12), (49, 13)] (fun f X hX hR K hK => ?_) ?_
   · obtain ⟨o, hbl, ho⟩ := vbr6_4.ext hX
     simp only [yA, yB, yC, yD, yE]
     refine ⟨Par.want (by kernel_rfl) (wp_loadE (.tmp 9) rfl rfl hbl.range ho.elt.six ?_)⟩
     exact hK.out _ (EV o) _ (by simp only [yA, yB, yC, yD, yE]) (Ext.refl _) trivial (fun Y hY => ⟨o, rfl, ho⟩)
   refine Par.S 6 12 [(36, 0), (37, 1), (38, 2), (39, 3), (40, 4), (43, 7), (44, 8), (45, 9), (46, 10), (47, 11), (48, 12), (49, 13)] (fun f X hX hR K hK => ?_) ?_
   · have e1 : f 1 = _ := hR.out 1 rfl
     obtain ⟨o3, (e3 : f 3 = _), h3⟩ := hR.out 3 rfl
     obtain ⟨o4, (e4 : f 4 = _), h4⟩ := hR.out 4 rfl
     simp only [yA, yB, yC, yD, yE, e1, e3, e4]
     refine ⟨?_⟩
     go_simp
     refine (fm_any X (hn.out.ext hP0' (hE.trans hX)).fr.ff h3 h4).mono ?_
     rw [E_u3.out]
     rintro e w2 ⟨o, rfl, ho, hB⟩
     exact hK.out _ (EV o) _ (by simp only [yA, yB, yC, yD, yE, e1, e3, e4]) hB trivial (fun Y hY => ⟨o, rfl, ho⟩)
   refine Par.S 7 11 [(36, 0), (37, 1), (38, 2), (39, 3), (40, 4), (41, 5), (43, 7), (44, 8), (45, 9), (46, 10), (47, 11), (48, 12), (49, 13)] (fun f X hX hR K hK => ?_) ?_
   · have e0 : f 0 = _ := hR.out 0 rfl
     obtain ⟨o5, (e5 : f 5 = _), h5⟩ := hR.out 5 rfl
     simp only [yA, yB, yC, yD, yE, e0, e5]
     refine ⟨?_⟩
     go_simp
     refine (from_f X (hn.out.ext hP0' (hE.trans hX)).fr h5).mono ?_
     rintro e w2 ⟨A1, c1, rfl, hO, hB⟩
     exact hK.out _ _ _ (by simp only [yA, yB, yC, yD, yE, e0, e5]) hB trivial (fun Y hY => ⟨A1, c1, rfl, (hO.mono (Nat.le_trans Hqs.out (hE.trans hX).bsize)).below hY (Nat.le_refl _)⟩)
   refine Par.S 8 10 [(36, 0), (37, 1), (38, 2), (39, 3), (40, 4), (41, 5), (42, 6), (44, 8), (45, 9), (46, 10), (47, 11), (48, 12), (49, 13), (50, 14), (51, 15)] (fun f X hX hR K hK => ?_) ?_
   · simp only [yA, yB, yC, yD, yE]
     refine ⟨?_⟩
     go_simp
     exact Par.k hK (s := by simp only [yA, yB, yC, yD, yE])
   refine Par.S 9 9 [(36, 0), (37, 1), (38, 2), (39, 3), (40, 4), (41, 5), (42, 6), (43, 7), (45, 9), (46, 10), (47, 11), (48, 12), (49, 13), (50, 14)] (fun f X hX hR K hK => ?_) ?_
   · simp only [yA, yB, yC, yD, yE]
     refine ⟨?_⟩
     go_simp
     exact Par.k hK (s := by simp only [yA, yB, yC, yD, yE])
   refine Par.S 10 8 [(36, 0), (37, 1), (38, 2), (39, 3), (40, 4), (41, 5), (42, 6), (43, 7), (44, 8), (47, 11), (48, 12), (49, 13), (50, 14)] (fun f X hX hR K hK => ?_) ?_
   · simp only [yA, yB, yC, yD, yE]
     refine ⟨?_⟩
     go_simp
     exact Par.k hK (s := by simp only [yA, yB, yC, yD, yE])
   refine Par.S 11 7 [(36, 0), (37, 1), (38, 2), (39, 3), (40, 4), (41, 5), (42, 6), (43, 7), (44, 8), (45, 9), (47, 11), (48, 12), (49, 13), (50, 14)] (fun f X hX hR K hK => ?_) ?_
   · have e9 : f 9 = _ := hR.out 9 rfl
     simp only [yA, yB, yC, yD, yE, e9]
     refine ⟨Par.want (by kernel_rfl) (wp_loadE (.tmp 45) rfl rfl (BlkJ.ry ((hE.trans hX).at_ hpj) hJ.out.x.elt.six) hJ.out.y.elt.six ?_)⟩
     exact hK.out _ (EV ly) _ (by simp only [yA, yB, yC, yD, yE, e9]) (Ext.refl _) trivial (fun Y hY => ⟨ly, rfl, hJ.out.y⟩)
   refine Par.S 12 6 [(36, 0), (37, 1), (38, 2), (39, 3), (40, 4), (41, 5), (42, 6), (43, 7), (44, 8), (45, 9), (46, 10), (48, 12), (49, 13)] (fun f X hX hR K hK => ?_) ?_
   · simp only [yA, yB, yC, yD, yE]
     refine ⟨?_⟩
     go_simp
     exact Par.k hK (s := by simp only [yA, yB, yC, yD, yE])
   refine Par.S 13 5 [(36, 0), (37, 1), (38, 2), (39, 3), (40, 4), (41, 5), (42, 6), (43, 7), (44, 8), (45, 9), (46, 10), (47, 11), (49, 13)] (fun f X hX hR K hK => ?_) ?_
   · obtain ⟨o, hbl, ho⟩ := vbr6_4.ext hX
     simp only [yA, yB, yC, yD, yE]
     refine ⟨Par.want (by kernel_rfl) (wp_loadE (.tmp 9) rfl rfl hbl.range ho.elt.six ?_)⟩
     exact hK.out _ (EV o) _ (by simp only [yA, yB, yC, yD, yE]) (Ext.refl _) trivial (fun Y hY => ⟨o, rfl, ho⟩)
   refine Par.S 14 4 [(36, 0), (37, 1), (38, 2), (39, 3), (40, 4), (41, 5), (42, 6), (43, 7), (44, 8), (45, 9), (46, 10), (47, 11), (48, 12)] (fun f X hX hR K hK => ?_) ?_
   · obtain ⟨o, hbl, ho⟩ := vbr5_5.ext hX
     simp only [yA, yB, yC, yD, yE]
     refine ⟨Par.want (by kernel_rfl) (wp_loadE (.tmp 8) rfl rfl hbl.range ho.elt.six ?_)⟩
     exact hK.out _ (EV o) _ (by simp only [yA, yB, yC, yD, yE]) (Ext.refl _) trivial (fun Y hY => ⟨o, rfl, ho⟩)
   refine Par.S 15 3 [(36, 0), (37, 1), (38, 2), (39, 3), (40, 4), (41, 5), (42, 6), (43, 7), (44, 8), (45, 9), (46, 10), (47, 11), (48, 12), (49, 13)] (fun f X hX hR K hK => ?_) ?_
   · have e11 : f 11 = _ := hR.out 11 rfl
     obtain ⟨o12, (e12 : f 12 = _), h12⟩ := hR.out 12 rfl
     obtain ⟨o13, (e13 : f 13 = _), h13⟩ := hR.out 13 rfl
     simp only [yA, yB, yC, yD, yE, e11, e12, e13]
     refine ⟨?_⟩
     go_simp
     refine (fm_any X (hn.out.ext hP0' (hE.trans hX)).fr.ff h12 h13).mono ?_
     rw [E_u4.out]
     rintro e w2 ⟨o, rfl, ho, hB⟩
     exact hK.out _ (EV o) _ (by simp only [yA, yB, yC, yD, yE, e11, e12, e13]) hB trivial (fun Y hY => ⟨o, rfl, ho⟩)
   refine Par.S 16 2 [(36, 0), (37, 1), (38, 2), (39, 3), (40, 4), (41, 5), (42, 6), (43, 7), (44, 8), (45, 9), (46, 10), (47, 11), (48, 12), (49, 13), (50, 14)] (fun f X hX hR K hK => ?_) ?_
   · have e8 : f 8 = _ := hR.out 8 rfl
     obtain ⟨o10, (e10 : f 10 = _), h10⟩ := hR.out 10 rfl
     obtain ⟨o14, (e14 : f 14 = _), h14⟩ := hR.out 14 rfl
     simp only [yA, yB, yC, yD, yE, e8, e10, e14]
     refine ⟨?_⟩
     go_simp
     refine (fm_any X (hn.out.ext hP0' (hE.trans hX)).fr.ff h10 h14).mono ?_
     rw [E_u5.out]
     rintro e w2 ⟨o, rfl, ho, hB⟩
     exact hK.out _ (EV o) _ (by simp only [yA, yB, yC, yD, yE, e8, e10, e14]) hB trivial (fun Y hY => ⟨o, rfl, ho⟩)
   refine Par.S 17 1 [(36, 0), (37, 1), (38, 2), (39, 3), (40, 4), (41, 5), (42, 6), (43, 7), (44, 8), (45, 9), (46, 10), (47, 11), (48, 12), (49, 13), (50, 14), (51, 15)] (fun f X hX hR K hK => ?_) ?_
   · have e7 : f 7 = _ := hR.out 7 rfl
     obtain ⟨o15, (e15 : f 15 = _), h15⟩ := hR.out 15 rfl
     simp only [yA, yB, yC, yD, yE, e7, e15]
     refine ⟨?_⟩
     go_simp
     refine (from_f X (hn.out.ext hP0' (hE.trans hX)).fr h15).mono ?_
     rintro e w2 ⟨A1, c1, rfl, hO, hB⟩
     exact hK.out _ _ _ (by simp only [yA, yB, yC, yD, yE, e7, e15]) hB trivial (fun Y hY => ⟨A1, c1, rfl, (hO.mono (Nat.le_trans Hqs.out (hE.trans hX).bsize)).below hY (Nat.le_refl _)⟩)
   refine Par.S 18 0 [(36, 0), (37, 1), (38, 2), (39, 3), (40, 4), (41, 5), (42, 6), (43, 7), (44, 8), (45, 9), (46, 10), (47, 11), (48, 12), (49, 13), (50, 14), (51, 15), (52, 16)] (fun f X hX hR K hK => ?_) ?_
   · obtain ⟨A6, c6, (e6 : f 6 = _), o6⟩ := hR.out 6 rfl
     obtain ⟨A16, c16, (e16 : f 16 = _), o16⟩ := hR.out 16 rfl
     simp only [yA, yB, yC, yD, yE, e6, e16]
     refine ⟨?_⟩
     go_simp
     exact hK.out _ _ _ (by simp only [yA, yB, yC, yD, yE, e6, e16]) (Ext.refl _) trivial (fun Y hY => ⟨A6, c6, A16, c16, rfl, o6.below hY (Nat.le_refl _), o16.below hY (Nat.le_refl _)⟩)
   refine Par.AllOps.fin ⟨fun f X hX hR hal hap => ?_⟩
   have e0 : f 0 = _ := hR 0 (by decide)
   have e1 : f 1 = _ := hR 1 (by decide)
   have e2 : f 2 = _ := hR 2 (by decide)
   obtain ⟨o3, (e3 : f 3 = _), h3⟩ := hR 3 (by decide)
   obtain ⟨o4, (e4 : f 4 = _), h4⟩ := hR 4 (by decide)
   obtain ⟨o5, (e5 : f 5 = _), h5⟩ := hR 5 (by decide)
   obtain ⟨A6, c6, (e6 : f 6 = _), o6⟩ := hR 6 (by decide)
   have e7 : f 7 = _ := hR 7 (by decide)
   have e8 : f 8 = _ := hR 8 (by decide)
   have e9 : f 9 = _ := hR 9 (by decide)
   obtain ⟨o10, (e10 : f 10 = _), h10⟩ := hR 10 (by decide)
   have e11 : f 11 = _ := hR 11 (by decide)
   obtain ⟨o12, (e12 : f 12 = _), h12⟩ := hR 12 (by decide)
   obtain ⟨o13, (e13 : f 13 = _), h13⟩ := hR 13 (by decide)
   obtain ⟨o14, (e14 : f 14 = _), h14⟩ := hR 14 (by decide)
   obtain ⟨o15, (e15 : f 15 = _), h15⟩ := hR 15 (by decide)
   obtain ⟨A16, c16, (e16 : f 16 = _), o16⟩ := hR 16 (by decide)
   obtain ⟨A17, c17, B17, d17, (e17 : f 17 = _), o17, p17⟩ := hR 17 (by decide)
   simp only [yA, yB, yC, yD, yE, e0, e1, e2, e3, e4, e5, e6, e7, e8, e9, e10, e11, e12, e13, e14, e15, e16, e17]
   clear hR hal hap e0 e1 e2 e3 e4 e5 e6 e7 e8 e9 e10 e11 e12 e13 e14 e15 e16 e17
   refine Par.Chain.next (fun K hK => ⟨Par.want (by kernel_rfl) (wp_storeV (cs' := #[.bool false, .slice A17 (digs 18446744073709551616 (u3 % M)).length c17, .slice B17 (digs 18446744073709551616 (u5 % M)).length d17]) (t := 27) 27 (.tmp 4) (.tmp 53) rfl rfl rfl rfl (hX.at_ hb1) infoP rfl (pt_one _ _ _ _ _ _ _) (fun Y hY1 hY2 hY3 => hK.out _ _ ?_))⟩)
   refine Par.Chain.done ?_
   go_wp2
   exact end_p rfl rfl rfl hY1 ⟨_, rfl, ⟨A17, c17, B17, d17, rfl, o17.just hY2 (hX.at_ hb1) (by decide), p17.just hY2 (hX.at_ hb1) (by decide)⟩, hY2.ext (HE0.out.trans (hE.trans hX)) (by have := Hq.out; omega)⟩
end Go.Proofs.Ytldhmjfjbalakaa

namespace Go.Proofs.Ytldhmjfjbalakaa
open Go.RowKit

theorem RN.ru {w : World} {P : Nat → Prop} {A : Option Addr} {c : Nat} {l : List Nat} (h : RN w P A c l) (hP : ∀ b, P b → b < w.heap.size) : RU w A c l := h.mono fun b hb => hP b hb
theorem of_b {c : Int} {C : Crv} (h : IsC c C) (w : World) : Calls Try.prog 42 #[.int .i64 c] w fun e w' => ∃ k, e = .returned (.pointer (some ⟨k, 0, none⟩)) ∧ (∃ (P0 : Nat → Prop) (g inv : Nat) (ml ol rl tl fl : List Nat) (Ap An Ab Ax Ay : Option Addr) (cp cn cb cx cy : Nat), Num w' P0 k g C.size C.n inv C.M C.bb C.pl C.nl C.bl C.xl C.yl ml ol rl tl fl Ap An Ab Ax Ay cp cn cb cx cy ∧ ∀ b, P0 b → w.heap.size ≤ b ∧ b < w'.heap.size) ∧ Ext w w' := by
 rcases h with ⟨rfl, rfl⟩ | ⟨rfl, rfl⟩
 · refine (of_p256 w).mono ?_
   rintro e w' ⟨k, g, inv, ml, ol, rl, tl, fl, rfl, _, hn, hB⟩
   exact ⟨k, rfl, ⟨_, g, inv, ml, ol, rl, tl, fl, _, _, _, _, _, _, _, _, _, _, hn, fun b hb => hb⟩, hB⟩
 · refine (of_p384 w).mono ?_
   rintro e w' ⟨k, g, inv, ml, ol, rl, tl, fl, rfl, _, hn, hB⟩
   exact ⟨k, rfl, ⟨_, g, inv, ml, ol, rl, tl, fl, _, _, _, _, _, _, _, _, _, _, hn, fun b hb => hb⟩, hB⟩
set_option maxHeartbeats 2000000
theorem prime_c {c : Int} {C : Crv} (hC : IsC c C) (w : World) : Calls Try.prog 34 #[.int .i64 c] w fun e w' => ∃ A cc, e = .returned (.slice A C.pl.length cc) ∧ RU w' A cc C.pl ∧ Ext w w' := by
 go_enter Try.func34, Try.ntmps34
 go_wp2_with (go_at_call 42; refine (of_c hC _).mono ?_; rintro e wa ⟨k, rfl, ⟨P0, g, inv, ml, ol, rl, tl, fl, Ap, An, Ab, Ax, Ay, cp, cn, cb, cx, cy, hn, hP0⟩, hE1⟩; have k1 := hn.c_p; have k2 := hn.c_n; have k0 := hn.c_size; have Hn := Lib.hid hn; have HP := Lib.hid hP0; clear hn hP0)
 go_ret
 exact ⟨_, _, rfl, Hn.out.p.ru HP.out, hE1⟩
theorem order_c {c : Int} {C : Crv} (hC : IsC c C) (w : World) : Calls Try.prog 24 #[.int .i64 c] w fun e w' => ∃ A cc, e = .returned (.slice A C.nl.length cc) ∧ RU w' A cc C.nl ∧ Ext w w' := by
 go_enter Try.func24, Try.ntmps24
 go_wp2_with (go_at_call 42; refine (of_c hC _).mono ?_; rintro e wa ⟨k, rfl, ⟨P0, g, inv, ml, ol, rl, tl, fl, Ap, An, Ab, Ax, Ay, cp, cn, cb, cx, cy, hn, hP0⟩, hE1⟩; have k1 := hn.c_p; have k2 := hn.c_n; have k0 := hn.c_size; have Hn := Lib.hid hn; have HP := Lib.hid hP0; clear hn hP0)
 go_ret
 exact ⟨_, _, rfl, Hn.out.nn.ru HP.out, hE1⟩
theorem size_c {c : Int} {C : Crv} (hC : IsC c C) (w : World) : Calls Try.prog 35 #[.int .i64 c] w fun e w' => e = .returned (.int .i64 (C.size : Int)) ∧ Ext w w' := by
 go_enter Try.func35, Try.ntmps35
 go_wp2_with (go_at_call 42; refine (of_c hC _).mono ?_; rintro e wa ⟨k, rfl, hk, hE1⟩; have k0 := hk.size)
 go_ret
 exact ⟨rfl, hE1⟩
theorem prime_nil {c : Int} (h1 : c ≠ 1) (h2 : c ≠ 2) (w : World) : Calls Try.prog 34 #[.int .i64 c] w fun e w' => e = .returned (.slice none 0 0) ∧ Ext w w' := by
 go_enter Try.func34, Try.ntmps34
 go_wp2_with (go_at_call 42; refine (of_nil h1 h2 _).mono ?_; rintro e wa ⟨rfl, hE1⟩)
 go_ret
 exact ⟨rfl, hE1⟩
theorem order_nil {c : Int} (h1 : c ≠ 1) (h2 : c ≠ 2) (w : World) : Calls Try.prog 24 #[.int .i64 c] w fun e w' => e = .returned (.slice none 0 0) ∧ Ext w w' := by
 go_enter Try.func24, Try.ntmps24
 go_wp2_with (go_at_call 42; refine (of_nil h1 h2 _).mono ?_; rintro e wa ⟨rfl, hE1⟩)
 go_ret
 exact ⟨rfl, hE1⟩
theorem size_nil {c : Int} (h1 : c ≠ 1) (h2 : c ≠ 2) (w : World) : Calls Try.prog 35 #[.int .i64 c] w fun e w' => e = .returned (.int .i64 0) ∧ Ext w w' := by
 go_enter Try.func35, Try.ntmps35
 go_wp2_with (go_at_call 42; refine (of_nil h1 h2 _).mono ?_; rintro e wa ⟨rfl, hE1⟩)
 go_ret
 exact ⟨rfl, hE1⟩
set_option maxRecDepth 100000 in
theorem base_c {c : Int} {C : Crv} (hC : IsC c C) (w : World) : Calls Try.prog 20 #[.int .i64 c] w fun e w' => ∃ A cc A' cc', e = .returned (.agg #[.bool false, .slice A C.xl.length cc, .slice A' C.yl.length cc']) ∧ RU w' A cc C.xl ∧ RU w' A' cc' C.yl ∧ Ext w w' := by
 have hr := heap_alloc_new w (.cells #[.bool false, .slice none 0 0, .slice none 0 0] 27)
 go_enter Try.func20, Try.ntmps20
 go_wp2_with (go_at_call 42; refine (of_b hC _).mono ?_; rintro e wa ⟨k, rfl, ⟨P0, g, inv, ml, ol, rl, tl, fl, Ap, An, Ab, Ax, Ay, cp, cn, cb, cx, cy, hn, hP0⟩, hE1⟩; have k1 := hn.c_x; have k2 := hn.c_y; have k0 := hn.c_size; have Hn := Lib.hid hn; have HP := Lib.hid hP0; have hra := hE1.at_ hr; obtain ⟨z0, z1, z2, f0, f1, f2⟩ := pt_facts hra; clear hn hP0)
 obtain ⟨q, hq⟩ : ∃ q, w.heap.size = q := ⟨_, rfl⟩
 rw [hq] at hra
 clear z0 z1 z2 f0 f1 f2
 rw [hq]
 refine Par.region_ext (by kernel_rfl) 9 [0, 1, 3, 7, 0, 16, 48, 112, 255, 511] [] (fun j f X => match j with
  | 0 => f 0 = .pointer (some ⟨k, 0, none⟩)
  | 1 => f 1 = .pointer (some ⟨k, 0, none⟩)
  | 2 => f 2 = .pointer (some ⟨k, 4, none⟩)
  | 3 => f 3 = .slice Ax C.xl.length cx
  | 4 => f 4 = .pointer (some ⟨k, 0, none⟩)
  | 5 => f 5 = .pointer (some ⟨k, 0, none⟩)
  | 6 => f 6 = .pointer (some ⟨k, 5, none⟩)
  | 7 => f 7 = .slice Ay C.yl.length cy
  | 8 => f 8 = .agg #[.bool false, .slice Ax C.xl.length cx, .slice Ay C.yl.length cy]
  | _ => True) (by kernel_rfl) [(8, 0), (9, 1), (10, 2), (11, 3), (12, 4), (13, 5), (14, 6), (15, 7), (16, 8)] (by kernel_rfl) ?_
 refine Par.S 1 8 [(12, 4), (13, 5), (14, 6), (15, 7)] (fun f X hX hR K hK => ?_) ?_
 · simp only [yA, yB, yC, yD, yE]
   refine ⟨?_⟩
   go_simp
   exact Par.k hK (s := by simp only [yA, yB, yC, yD, yE])
 refine Par.S 2 7 [(8, 0), (12, 4), (13, 5), (14, 6), (15, 7)] (fun f X hX hR K hK => ?_) ?_
 · have e0 : f 0 = _ := hR.out 0 rfl
   simp only [yA, yB, yC, yD, yE, e0]
   refine ⟨?_⟩
   go_simp
   exact Par.k hK (s := by simp only [yA, yB, yC, yD, yE, e0])
 refine Par.S 3 6 [(8, 0), (9, 1), (12, 4), (13, 5), (14, 6), (15, 7)] (fun f X hX hR K hK => ?_) ?_
 · have e1 : f 1 = _ := hR.out 1 rfl
   simp only [yA, yB, yC, yD, yE, e1]
   refine ⟨?_⟩
   go_simp
   exact Par.k hK (s := by simp only [yA, yB, yC, yD, yE, e1])
 refine Par.S 4 5 [(8, 0), (9, 1), (10, 2), (12, 4), (13, 5), (14, 6), (15, 7)] (fun f X hX hR K hK => ?_) ?_
 · have e2 : f 2 = _ := hR.out 2 rfl
   have x0 := hX.cell k1
   simp only [yA, yB, yC, yD, yE, e2]
   refine ⟨?_⟩
   go_simp
   exact Par.k hK (s := by simp only [yA, yB, yC, yD, yE, e2])
 refine Par.S 5 4 [(8, 0), (9, 1), (10, 2), (11, 3)] (fun f X hX hR K hK => ?_) ?_
 · simp only [yA, yB, yC, yD, yE]
   refine ⟨?_⟩
   go_simp
   exact Par.k hK (s := by simp only [yA, yB, yC, yD, yE])
 refine Par.S 6 3 [(8, 0), (9, 1), (10, 2), (11, 3), (12, 4)] (fun f X hX hR K hK => ?_) ?_
 · have e4 : f 4 = _ := hR.out 4 rfl
   simp only [yA, yB, yC, yD, yE, e4]
   refine ⟨?_⟩
   go_simp
   exact Par.k hK (s := by simp only [yA, yB, yC, yD, yE, e4])
 refine Par.S 7 2 [(8, 0), (9, 1), (10, 2), (11, 3), (12, 4), (13, 5)] (fun f X hX hR K hK => ?_) ?_
 · have e5 : f 5 = _ := hR.out 5 rfl
   simp only [yA, yB, yC, yD, yE, e5]
   refine ⟨?_⟩
   go_simp
   exact Par.k hK (s := by simp only [yA, yB, yC, yD, yE, e5])
 refine Par.S 8 1 [(8, 0), (9, 1), (10, 2), (11, 3), (12, 4), (13, 5), (14, 6)] (fun f X hX hR K hK => ?_) ?_
 · have e6 : f 6 = _ := hR.out 6 rfl
   have x0 := hX.cell k2
   simp only [yA, yB, yC, yD, yE, e6]
   refine ⟨?_⟩
   go_simp
   exact Par.k hK (s := by simp only [yA, yB, yC, yD, yE, e6])
 refine Par.S 9 0 [(8, 0), (9, 1), (10, 2), (11, 3), (12, 4), (13, 5), (14, 6), (15, 7)] (fun f X hX hR K hK => ?_) ?_
 · have e3 : f 3 = _ := hR.out 3 rfl
   have e7 : f 7 = _ := hR.out 7 rfl
   simp only [yA, yB, yC, yD, yE, e3, e7]
   refine ⟨?_⟩
   go_simp
   exact Par.k hK (s := by simp only [yA, yB, yC, yD, yE, e3, e7])
 refine Par.AllOps.fin ⟨fun f X hX hR hal hap => ?_⟩
 have e0 : f 0 = _ := hR 0 (by decide)
 have e1 : f 1 = _ := hR 1 (by decide)
 have e2 : f 2 = _ := hR 2 (by decide)
 have e3 : f 3 = _ := hR 3 (by decide)
 have e4 : f 4 = _ := hR 4 (by decide)
 have e5 : f 5 = _ := hR 5 (by decide)
 have e6 : f 6 = _ := hR 6 (by decide)
 have e7 : f 7 = _ := hR 7 (by decide)
 have e8 : f 8 = _ := hR 8 (by decide)
 simp only [yA, yB, yC, yD, yE, e0, e1, e2, e3, e4, e5, e6, e7, e8]
 clear hR hal hap e0 e1 e2 e3 e4 e5 e6 e7 e8
 refine Par.Chain.next (fun K hK => ⟨Par.want (by kernel_rfl) (wp_storeV (cs' := #[.bool false, .slice Ax C.xl.length cx, .slice Ay C.yl.length cy]) (t := 27) 27 (.tmp 2) (.tmp 16) rfl rfl rfl rfl (hX.at_ hra) infoP rfl (pt_one _ _ _ _ _ _ _) (fun Y hY1 hY2 hY3 => hK.out _ _ ?_))⟩)
 refine Par.Chain.done ?_
 go_wp2
 have zA : q + 1 ≤ wa.heap.size := by have := hE1.bsize; simp only [World.size_alloc] at this; omega
 have hP1 : ∀ b, P0 b → q < b ∧ b < wa.heap.size := fun b hb => by have := HP.out b hb; simp only [World.size_alloc] at this; omega
 have hx : RN Y P0 Ax cx C.xl := (Hn.out.x.below hX (fun b hb => (hP1 b hb).2)).just hY2 (fun b hb => ⟨by have := hP1 b hb; have := hX.bsize; omega, by have := hP1 b hb; omega⟩)
 have hy : RN Y P0 Ay cy C.yl := (Hn.out.y.below hX (fun b hb => (hP1 b hb).2)).just hY2 (fun b hb => ⟨by have := hP1 b hb; have := hX.bsize; omega, by have := hP1 b hb; omega⟩)
 have hb : ∀ b, P0 b → b < Y.heap.size := fun b hb => by have := hP1 b hb; have := hX.bsize; omega
 exact end_p rfl rfl rfl hY1 ⟨_, _, _, _, rfl, hx.ru hb, hy.ru hb, hY2.ext (((Ext.alloc w _).trans hE1).trans hX) (by omega)⟩
theorem base_nil {c : Int} (h1 : c ≠ 1) (h2 : c ≠ 2) (w : World) : Calls Try.prog 20 #[.int .i64 c] w fun e w' => e = .returned infV ∧ Ext w w' := by
 have hr := heap_alloc_new w (.cells #[.bool false, .slice none 0 0, .slice none 0 0] 27)
 go_enter Try.func20, Try.ntmps20
 go_wp2_with (first
  | (go_at_call 42; refine (of_nil h1 h2 _).mono ?_; rintro e wa ⟨rfl, hE1⟩; have hra := hE1.at_ hr)
  | (go_at_call 45; refine (none_any _).mono ?_; rintro e wb ⟨rfl, hE2⟩; have hrb2 := hE2.at_ hra; obtain ⟨z0, z1, z2, f0, f1, f2⟩ := pt_facts hrb2))
 exact end_p rfl rfl rfl (pt_set hrb2 _ _ _) ⟨rfl, pt_ext (((Ext.alloc w _).trans hE1).trans hE2) (Nat.le_refl _) _ _ _⟩
end Go.Proofs.Ytldhmjfjbalakaa
