/- curve: a point back from three elements. curve: the inner functions, for a curve's record and for points as numbers. A table of sixteen points by three elements, in memory. curve: Add. curve: Mul. ecdsa's may: a number from 1 to below the order, told of any curve and any number. ecdsa's Public: the point of a key, told of any curve and any number. Whether a key's values are ones: that it is told, of every kind that has a value. -/
import Derived.Test.YtendnkpiidhogaaGreatQ9bfe0ef704db
import Derived.Sort.CutIn
import Derived.Sort.AtCallIn
import Derived.TacticsInMore
namespace Go.Proofs.YtendnkpiidhogaaGreat
open Go.RowKit

def downP (M x y z : Nat) : Option (Nat × Nat) := if z % M = 0 then none else let u1 := z ^ (M - 2); let u2 := mm M u1 u1; let u3 := mm M x u2; let u4 := mm M u2 u1; let u5 := mm M y u4; some (u3 % M, u5 % M)
set_option maxRecDepth 100000 in
set_option maxHeartbeats 16000000 in
theorem down_any {P0 : Nat → Prop} {k g size n inv M bb : Nat} {pl nl bl xl yl ml ol rl tl fl lx ly lz : List Nat} {Ap An Ab Ax Ay : Option Addr} {cp cn cb cx cy x y z : Nat} (w : World)
 (hk : Num w P0 k g size n inv M bb pl nl bl xl yl ml ol rl tl fl Ap An Ab Ax Ay cp cn cb cx cy) (hP0 : ∀ b, P0 b → b < w.heap.size) (hpl : pl.length < 100000) (hj : FJ M n lx ly lz x y z) :
 Calls Tryz.prog 183 #[.pointer (some ⟨k, 0, none⟩), JV lx ly lz] w fun e w' => ∃ v, e = .returned v ∧ PtV w' w.heap.size v (downP M x y z) ∧ Ext w w' := by
 obtain ⟨cs, hcs⟩ : ∃ cs, (nts (lx ++ ly ++ lz)).toArray = cs := ⟨_, rfl⟩
 obtain ⟨W0, hW0⟩ : ∃ W0, W0 = (w.alloc (.cells cs 199)).alloc (.cells #[.bool false, .slice none 0 0, .slice none 0 0] 114) := ⟨_, rfl⟩
 obtain ⟨q, hq⟩ : ∃ q, w.heap.size = q := ⟨_, rfl⟩
 have hE0 : Ext w W0 := by rw [hW0]; exact (Ext.alloc _ _).trans (Ext.alloc _ _)
 obtain ⟨hpj, hrb, hz0⟩ := two_at2 w (.cells cs 199) (.cells #[.bool false, .slice none 0 0, .slice none 0 0] 114)
 rw [← hW0, hq] at hpj hrb hz0
 have hpj : BlkJ W0 q lx ly lz := by rw [BlkJ, hcs]; exact hpj
 have hn := Lib.hid (hk.ext hP0 hE0)
 have hP0' : ∀ b, P0 b → b < W0.heap.size := fun b hb => Nat.lt_of_lt_of_le (hP0 b hb) hE0.bsize
 have k6 := hn.out.c_f
 have k1 := hn.out.c_p
 have hJ := Lib.hid hj
 have HE0 := Lib.hid hE0
 have Hz0 := Lib.hid hz0
 have Hpv := Lib.hid hk.pv
 have Hpl := Lib.hid hpl
 have hM1 := hk.fr.ff.big
 have Hqs := Lib.hid (show q ≤ W0.heap.size by omega)
 rw [show JV lx ly lz = .agg cs by rw [JV, hcs], hq]
 clear hE0 hz0 hk hP0 hj hcs hpl
 by_cases hz : z % M = 0
 · have hzn := Lib.hid hz
   rw [downP, if_pos hz]
   clear hz k6 k1
   go_enter Tryz.func183, Tryz.ntmps183
   go_upto_region 1 with fail
   rw [← hW0]
   have Hq := Lib.hid hq
   have HW0 := Lib.hid hW0
   have hE := Ext.refl W0
   clear hq hW0
   refine Par.region_txt 3 [0, 1, 3] [] (fun j f X => match j with
    | 0 => f 0 = .pointer (some ⟨q, 12, none⟩)
    | 1 => ∃ o, f 1 = EV o ∧ FE M n o z
    | 2 => f 2 = .bool true
    | _ => True) (by kernel_rfl) [(10, 0), (11, 1), (12, 2)] (by kernel_rfl) ?_
   refine Par.v0 1 2 ?_
   refine lE 2 1 0 (fun _ hX => BlkJ.rz ((hE.trans hX).at_ hpj) hJ.out.x.elt.six hJ.out.y.elt.six) hJ.out.z ?_
   refine Par.c0 3 0 (fun f => #[f 1]) (F' := 177) (fun f X hX hR => ?_) ?_
   · obtain ⟨o1, (e1 : f 1 = _), h1⟩ := hR.out 1 rfl
     simp only [e1]
     refine (zero_any o1 X h1.elt.six).mono ?_
     rintro e w2 ⟨rfl, hB⟩
     rw [show decide (o1 = [0, 0, 0, 0, 0, 0]) = true by rw [decide_eq_decide.2 (h1.zero_iff (hn.out.ext hP0' (hE.trans hX)).fr.ff)]; exact decide_eq_true hzn.out]
     exact ⟨(.bool true), rfl, hB, fun _ _ => rfl⟩
   refine Par.AllOps.fin ⟨fun f X hX hR hal hap => ?_⟩
   obtain ⟨o1, (e1 : f 1 = _), h1⟩ := hR 1 (by decide)
   have e2 : f 2 = _ := hR 2 (by decide)
   simp only [yA, yB, yD, yE, e1, e2]
   clear hR hal hap e1 e2
   refine Par.Chain.done ?_
   replace hE := hE.trans hX
   clear hX
   rename World => X1_
   go_upto_region 2 with fail
   have hb1 := hE.at_ hrb
   refine Par.region_txt 1 [0, 1] [] (fun j f X => match j with
    | 0 => f 0 = infV
    | _ => True) (by kernel_rfl) [(13, 0)] (by kernel_rfl) ?_
   refine Par.c0 1 0 (fun _ => #[]) (F' := 137) (fun f X hX hR => ?_) ?_
   · refine (none_any X).mono ?_
     rintro e w2 ⟨rfl, hB⟩
     exact ⟨infV, rfl, hB, fun _ _ => rfl⟩
   refine Par.AllOps.fin ⟨fun f X hX hR hal hap => ?_⟩
   have e0 : f 0 = _ := hR 0 (by decide)
   simp only [yA, yB, yD, yE, e0]
   clear hR hal hap e0
   refine Par.Chain.next (fun K hK => ⟨Par.want (by kernel_rfl) (wp_storeV (cs' := #[.bool true, .slice none 0 0, .slice none 0 0]) (t := 114) 114 (.tmp 4) (.tmp 13) rfl rfl rfl rfl (hX.at_ hb1) infoP rfl (pt_one _ _ _ _ _ _ _) (fun Y hY1 hY2 hY3 => hK.out _ _ ?_))⟩)
   refine Par.Chain.done ?_
   go_wp2
   exact end_p rfl rfl rfl hY1 ⟨_, rfl, rfl, hY2.ext (HE0.out.trans (hE.trans hX)) (by have := Hq.out; omega)⟩
 · have hzn := Lib.hid hz
   obtain ⟨u1, e_u1⟩ : ∃ v, z ^ (M - 2) = v := ⟨_, rfl⟩
   have E_u1 := Lib.hid e_u1
   clear e_u1
   obtain ⟨u2, e_u2⟩ : ∃ v, mm M u1 u1 = v := ⟨_, rfl⟩
   have E_u2 := Lib.hid e_u2
   clear e_u2
   obtain ⟨u3, e_u3⟩ : ∃ v, mm M x u2 = v := ⟨_, rfl⟩
   have E_u3 := Lib.hid e_u3
   clear e_u3
   obtain ⟨u4, e_u4⟩ : ∃ v, mm M u2 u1 = v := ⟨_, rfl⟩
   have E_u4 := Lib.hid e_u4
   clear e_u4
   obtain ⟨u5, e_u5⟩ : ∃ v, mm M y u4 = v := ⟨_, rfl⟩
   have E_u5 := Lib.hid e_u5
   clear e_u5
   have hres : downP M x y z = some (u3 % M, u5 % M) := by rw [downP, if_neg hz]; simp only [E_u1.out, E_u2.out, E_u3.out, E_u4.out, E_u5.out]
   rw [hres]
   clear hres hz
   go_enter Tryz.func183, Tryz.ntmps183
   go_upto_region 1 with fail
   rw [← hW0]
   have Hq := Lib.hid hq
   have HW0 := Lib.hid hW0
   have hE := Ext.refl W0
   clear hq hW0
   refine Par.region_txt 3 [0, 1, 3] [] (fun j f X => match j with
    | 0 => f 0 = .pointer (some ⟨q, 12, none⟩)
    | 1 => ∃ o, f 1 = EV o ∧ FE M n o z
    | 2 => f 2 = .bool false
    | _ => True) (by kernel_rfl) [(10, 0), (11, 1), (12, 2)] (by kernel_rfl) ?_
   refine Par.v0 1 2 ?_
   refine lE 2 1 0 (fun _ hX => BlkJ.rz ((hE.trans hX).at_ hpj) hJ.out.x.elt.six hJ.out.y.elt.six) hJ.out.z ?_
   refine Par.c0 3 0 (fun f => #[f 1]) (F' := 177) (fun f X hX hR => ?_) ?_
   · obtain ⟨o1, (e1 : f 1 = _), h1⟩ := hR.out 1 rfl
     simp only [e1]
     refine (zero_any o1 X h1.elt.six).mono ?_
     rintro e w2 ⟨rfl, hB⟩
     rw [show decide (o1 = [0, 0, 0, 0, 0, 0]) = false by rw [decide_eq_decide.2 (h1.zero_iff (hn.out.ext hP0' (hE.trans hX)).fr.ff)]; exact decide_eq_false hzn.out]
     exact ⟨(.bool false), rfl, hB, fun _ _ => rfl⟩
   refine Par.AllOps.fin ⟨fun f X hX hR hal hap => ?_⟩
   obtain ⟨o1, (e1 : f 1 = _), h1⟩ := hR 1 (by decide)
   have e2 : f 2 = _ := hR 2 (by decide)
   simp only [yA, yB, yD, yE, e1, e2]
   clear hR hal hap e1 e2
   refine Par.Chain.done ?_
   replace hE := hE.trans hX
   clear hX
   rename World => X1_
   have k6' := hE.cell k6
   have k1' := hE.cell k1
   go_upto_region 4 with fail
   clear k6'
   refine Par.region_ext (by kernel_rfl) 11 [0, 1, 3, 7, 0, 31, 63, 127, 127, 255, 1023] [] (fun j f X => match j with
    | 0 => f 0 = .pointer (some ⟨k, 0, none⟩)
    | 1 => f 1 = .pointer (some ⟨k, 0, none⟩)
    | 2 => f 2 = .pointer (some ⟨k, 1, none⟩)
    | 3 => f 3 = .slice Ap pl.length cp
    | 4 => ∃ A1 c1, f 4 = .slice A1 (digs 18446744073709551616 2).length c1 ∧ OB X q A1 c1 (digs 18446744073709551616 2)
    | 5 => ∃ A1 c1, f 5 = .tuple #[.slice A1 (digs 18446744073709551616 (M - 2)).length c1, .bool true] ∧ OB X q A1 c1 (digs 18446744073709551616 (M - 2))
    | 6 => ∃ A1 c1, f 6 = .tuple #[.slice A1 (digs 18446744073709551616 (M - 2)).length c1, .bool true] ∧ OB X q A1 c1 (digs 18446744073709551616 (M - 2))
    | 7 => ∃ A1 c1, f 7 = .slice A1 (digs 18446744073709551616 (M - 2)).length c1 ∧ OB X q A1 c1 (digs 18446744073709551616 (M - 2))
    | 8 => f 8 = .bool true
    | 9 => ∃ A1 c1, f 9 = .slice A1 (digs 18446744073709551616 (M - 2)).length c1 ∧ OB X q A1 c1 (digs 18446744073709551616 (M - 2))
    | 10 => f 10 = .bool true
    | _ => True) (by kernel_rfl) [(19, 0), (20, 1), (21, 2), (22, 3), (23, 4), (24, 5), (18, 6), (25, 7), (26, 8), (6, 9), (7, 10)] (by kernel_rfl) ?_
   refine Par.v0 1 10 ?_
   refine Par.v1 2 9 0 ?_
   refine Par.v1 3 8 1 ?_
   refine Par.ld1 4 7 2 k1' ?_
   refine Par.c0 5 6 (fun _ => #[Value.int IntKind.u64 2]) (F' := 168) (fun f X hX hR => ?_) ?_
   · refine (of_any 2 X (by omega)).mono ?_
     rintro e w2 ⟨A1, c1, rfl, hO, hB⟩
     exact ⟨_, rfl, hB, fun Y hY => ⟨A1, c1, rfl, (hO.mono (Nat.le_trans Hqs.out (hE.trans hX).bsize)).below hY (Nat.le_refl _)⟩⟩
   refine Par.c0 6 5 (fun f => #[f 3, f 4]) (F' := 170) (fun f X hX hR => ?_) ?_
   · have e3 : f 3 = _ := hR.out 3 rfl
     obtain ⟨A4, c4, (e4 : f 4 = _), o4⟩ := hR.out 4 rfl
     simp only [e3, e4]
     refine (sub_yes P0 _ Ap A4 cp c4 pl _ X (hn.out.ext hP0' (hE.trans hX)).p o4.rn (fun b hb => Nat.lt_of_lt_of_le (hP0' b hb) (hE.trans hX).bsize) (fun b hb => hb.2) Hpl.out (by rw [Hpv.out, val_digs (by omega)]; omega)).mono ?_
     rw [Hpv.out, val_digs (by omega)]
     rintro e w2 ⟨A1, c1, rfl, hO, hB⟩
     exact ⟨_, rfl, hB, fun Y hY => ⟨A1, c1, rfl, (hO.mono (Nat.le_trans Hqs.out (hE.trans hX).bsize)).below hY (Nat.le_refl _)⟩⟩
   refine Par.S 7 4 [(19, 0), (20, 1), (21, 2), (22, 3), (23, 4), (24, 5)] (fun f X hX hR K hK => ?_) ?_
   · obtain ⟨A5, c5, (e5 : f 5 = _), o5⟩ := hR.out 5 rfl
     simp only [yA, yB, yC, yD, yE, e5]
     refine ⟨?_⟩
     go_simp
     exact hK.out _ _ _ (by simp only [yA, yB, yC, yD, yE, e5]) (Ext.refl _) trivial (fun Y hY => ⟨A5, c5, rfl, o5.below (hY) (Nat.le_refl _)⟩)
   refine Par.S 8 3 [(19, 0), (20, 1), (21, 2), (22, 3), (23, 4), (24, 5), (18, 6), (26, 8)] (fun f X hX hR K hK => ?_) ?_
   · obtain ⟨A6, c6, (e6 : f 6 = _), o6⟩ := hR.out 6 rfl
     simp only [yA, yB, yC, yD, yE, e6]
     refine ⟨?_⟩
     go_simp
     exact hK.out _ _ _ (by simp only [yA, yB, yC, yD, yE, e6]) (Ext.refl _) trivial (fun Y hY => ⟨A6, c6, rfl, o6.below (hY) (Nat.le_refl _)⟩)
   refine Par.S 9 2 [(19, 0), (20, 1), (21, 2), (22, 3), (23, 4), (24, 5), (18, 6), (25, 7), (6, 9)] (fun f X hX hR K hK => ?_) ?_
   · obtain ⟨A6, c6, (e6 : f 6 = _), o6⟩ := hR.out 6 rfl
     simp only [yA, yB, yC, yD, yE, e6]
     refine ⟨?_⟩
     go_simp
     exact Par.k hK (s := by simp only [yA, yB, yC, yD, yE, e6])
   refine Par.S 10 1 [(19, 0), (20, 1), (21, 2), (22, 3), (23, 4), (24, 5), (18, 6), (25, 7), (26, 8)] (fun f X hX hR K hK => ?_) ?_
   · obtain ⟨A7, c7, (e7 : f 7 = _), o7⟩ := hR.out 7 rfl
     simp only [yA, yB, yC, yD, yE, e7]
     refine ⟨?_⟩
     go_simp
     exact hK.out _ _ _ (by simp only [yA, yB, yC, yD, yE, e7]) (Ext.refl _) trivial (fun Y hY => ⟨A7, c7, rfl, o7.below (hY) (Nat.le_refl _)⟩)
   refine Par.v1 11 0 8 ?_
   refine Par.AllOps.fin ⟨fun f X hX hR hal hap => ?_⟩
   obtain ⟨A4, c4, (e4 : f 4 = _), o4⟩ := hR 4 (by decide)
   obtain ⟨A5, c5, (e5 : f 5 = _), o5⟩ := hR 5 (by decide)
   obtain ⟨A6, c6, (e6 : f 6 = _), o6⟩ := hR 6 (by decide)
   obtain ⟨A7, c7, (e7 : f 7 = _), o7⟩ := hR 7 (by decide)
   obtain ⟨A9, c9, (e9 : f 9 = _), o9⟩ := hR 9 (by decide)
   simp only [yA, yB, yD, yE, e4, e5, e6, e7, e9]
   clear hR hal hap e4 e5 e6 e7 e9
   refine Par.Chain.done ?_
   replace hE := hE.trans hX
   have hL := o9
   rename World => X4_
   clear hX k1' o4 o5 o6 o7 o9
   go_upto_region 5 with fail
   refine Par.region_txt 6 [0, 0, 2, 0, 15, 0, 63] [5] (fun j f X => match j with
    | 0 => f 0 = .pointer (some ⟨g, 0, none⟩)
    | 1 => f 1 = .pointer (some ⟨q, 12, none⟩)
    | 2 => ∃ o, f 2 = EV o ∧ FE M n o z
    | 3 => f 3 = .slice A9 (digs 18446744073709551616 (M - 2)).length c9
    | 4 => ∃ o, f 4 = EV o ∧ FE M n o u1
    | 5 => ∃ b, f 5 = .pointer (some ⟨b, 0, none⟩) ∧ X4_.heap.size ≤ b ∧ X.heap[b]? = some (.cells #[.int .u64 0, .int .u64 0, .int .u64 0, .int .u64 0, .int .u64 0, .int .u64 0] 160 (0, 0))
    | _ => True) (by kernel_rfl) [(27, 0), (28, 1), (29, 2), (30, 3), (31, 4), (8, 5)] (by kernel_rfl) ?_
   refine Par.v0 1 5 ?_
   refine Par.v0 2 4 ?_
   refine lE 3 3 1 (fun _ hX => BlkJ.rz ((hE.trans hX).at_ hpj) hJ.out.x.elt.six hJ.out.y.elt.six) hJ.out.z ?_
   refine Par.v0 4 2 ?_
   refine Par.c0 5 1 (fun f => #[f 0, f 2, f 3]) (F' := 216) (fun f X hX hR => ?_) ?_
   · have e0 : f 0 = _ := hR.out 0 rfl
     obtain ⟨o2, (e2 : f 2 = _), h2⟩ := hR.out 2 rfl
     have e3 : f 3 = _ := hR.out 3 rfl
     simp only [e0, e2, e3]
     refine (zexp_any X (hn.out.ext hP0' (hE.trans hX)).fr hn.out.fr.fone z (M - 2) h2 _ A9 c9 _ (hL.below hX (Nat.le_refl _)).rn (fun b hb => hb.2) (val_digs (by omega) _)).mono ?_
     rw [E_u1.out]
     rintro e w2 ⟨o, rfl, ho, hB⟩
     exact ⟨(EV o), rfl, hB, fun Y hY => ⟨o, rfl, ho⟩⟩
   refine Par.al 6 0 ?_
   refine Par.AllOps.fin ⟨fun f X hX hR hal hap => ?_⟩
   obtain ⟨o2, (e2 : f 2 = _), h2⟩ := hR 2 (by decide)
   obtain ⟨o4, (e4 : f 4 = _), h4⟩ := hR 4 (by decide)
   obtain ⟨br5_5, (e5 : f 5 = _), lr5_5, hr5_5⟩ := hR 5 (by decide)
   simp only [yA, yB, yD, yE, e2, e4, e5]
   clear hR hal hap e2 e4 e5
   refine Par.Chain.next (fun K hK => ⟨Par.want (by kernel_rfl) (wp_storeE (.tmp 8) (.tmp 31) rfl rfl rfl rfl (hr5_5) zero6 h4.elt.six (fun Y2_6 hl2_6 => hK.out _ _ ?_))⟩)
   refine Par.Chain.done ?_
   have vbr5_5 : VE Y2_6 M n br5_5 u1 := (hl2_6.mk' h4)
   have lb_vbr5_5 := Nat.le_trans hE.bsize lr5_5
   have hE' : Ext W0 Y2_6 := (hl2_6.ext (hE.trans hX) (Nat.le_trans hE.bsize lr5_5))
   clear hE hX hl2_6 h2 h4 
   have hE := hE'
   clear hE'
   go_upto_region 6 with fail
   refine Par.region_txt 5 [0, 0, 0, 7, 0, 31] [4] (fun j f X => match j with
    | 0 => f 0 = .pointer (some ⟨g, 0, none⟩)
    | 1 => ∃ o, f 1 = EV o ∧ FE M n o u1
    | 2 => ∃ o, f 2 = EV o ∧ FE M n o u1
    | 3 => ∃ o, f 3 = EV o ∧ FE M n o u2
    | 4 => ∃ b, f 4 = .pointer (some ⟨b, 0, none⟩) ∧ Y2_6.heap.size ≤ b ∧ X.heap[b]? = some (.cells #[.int .u64 0, .int .u64 0, .int .u64 0, .int .u64 0, .int .u64 0, .int .u64 0] 160 (0, 0))
    | _ => True) (by kernel_rfl) [(32, 0), (33, 1), (34, 2), (35, 3), (9, 4)] (by kernel_rfl) ?_
   refine Par.v0 1 4 ?_
   refine lX 2 3 (fun X hX => let ⟨o, hbl, ho⟩ := vbr5_5.ext hX; ⟨o, hbl.range, ho⟩) ?_
   refine lX 3 2 (fun X hX => let ⟨o, hbl, ho⟩ := vbr5_5.ext hX; ⟨o, hbl.range, ho⟩) ?_
   refine fc 4 1 0 1 2 (fun X hX _ _ h h' => fm_any X (hn.out.ext hP0' (hE.trans hX)).fr.ff h h') E_u2.out ?_
   refine Par.al 5 0 ?_
   refine Par.AllOps.fin ⟨fun f X hX hR hal hap => ?_⟩
   obtain ⟨o1, (e1 : f 1 = _), h1⟩ := hR 1 (by decide)
   obtain ⟨o2, (e2 : f 2 = _), h2⟩ := hR 2 (by decide)
   obtain ⟨o3, (e3 : f 3 = _), h3⟩ := hR 3 (by decide)
   obtain ⟨br6_4, (e4 : f 4 = _), lr6_4, hr6_4⟩ := hR 4 (by decide)
   simp only [yA, yB, yD, yE, e1, e2, e3, e4]
   clear hR hal hap e1 e2 e3 e4
   refine Par.Chain.next (fun K hK => ⟨Par.want (by kernel_rfl) (wp_storeE (.tmp 9) (.tmp 35) rfl rfl rfl rfl (hr6_4) zero6 h3.elt.six (fun Y3_5 hl3_5 => hK.out _ _ ?_))⟩)
   refine Par.Chain.done ?_
   have d_br5_5_br6_4 : br5_5 ≠ br6_4 := by have := (let ⟨_, h, _⟩ := vbr5_5; h.lt : br5_5 < Y2_6.heap.size); omega
   replace vbr5_5 := (hl3_5.ve d_br5_5_br6_4 (vbr5_5.ext hX))
   have vbr6_4 : VE Y3_5 M n br6_4 u2 := (hl3_5.mk' h3)
   have lb_vbr6_4 := Nat.le_trans hE.bsize lr6_4
   have hE' : Ext W0 Y3_5 := (hl3_5.ext (hE.trans hX) (Nat.le_trans hE.bsize lr6_4))
   clear hE hX hl3_5 h1 h2 h3
   have hE := hE'
   clear hE'
   have hb1 := hE.at_ hrb
   go_upto_region 7 with fail
   refine Par.region_ext (by kernel_rfl) 18 [0, 0, 0, 4, 0, 30, 63, 0, 0, 0, 512, 0, 0, 0, 14463, 32639, 65535, 131071, 262143] [] (fun j f X => match j with
    | 0 => f 0 = .pointer (some ⟨g, 0, none⟩)
    | 1 => f 1 = .pointer (some ⟨g, 0, none⟩)
    | 2 => f 2 = .pointer (some ⟨q, 0, none⟩)
    | 3 => ∃ o, f 3 = EV o ∧ FE M n o x
    | 4 => ∃ o, f 4 = EV o ∧ FE M n o u2
    | 5 => ∃ o, f 5 = EV o ∧ FE M n o u3
    | 6 => ∃ A1 c1, f 6 = .slice A1 (digs 18446744073709551616 (u3 % M)).length c1 ∧ OB X q A1 c1 (digs 18446744073709551616 (u3 % M))
    | 7 => f 7 = .pointer (some ⟨g, 0, none⟩)
    | 8 => f 8 = .pointer (some ⟨g, 0, none⟩)
    | 9 => f 9 = .pointer (some ⟨q, 6, none⟩)
    | 10 => ∃ o, f 10 = EV o ∧ FE M n o y
    | 11 => f 11 = .pointer (some ⟨g, 0, none⟩)
    | 12 => ∃ o, f 12 = EV o ∧ FE M n o u2
    | 13 => ∃ o, f 13 = EV o ∧ FE M n o u1
    | 14 => ∃ o, f 14 = EV o ∧ FE M n o u4
    | 15 => ∃ o, f 15 = EV o ∧ FE M n o u5
    | 16 => ∃ A1 c1, f 16 = .slice A1 (digs 18446744073709551616 (u5 % M)).length c1 ∧ OB X q A1 c1 (digs 18446744073709551616 (u5 % M))
    | 17 => ∃ A1 c1 A2 c2, f 17 = .agg #[.bool false, .slice A1 (digs 18446744073709551616 (u3 % M)).length c1, .slice A2 (digs 18446744073709551616 (u5 % M)).length c2] ∧ OB X q A1 c1 (digs 18446744073709551616 (u3 % M)) ∧ OB X q A2 c2 (digs 18446744073709551616 (u5 % M))
    | _ => True) (by kernel_rfl) [(36, 0), (37, 1), (38, 2), (39, 3), (40, 4), (41, 5), (42, 6), (43, 7), (44, 8), (45, 9), (46, 10), (47, 11), (48, 12), (49, 13), (50, 14), (51, 15), (52, 16), (53, 17)] (by kernel_rfl) ?_
   refine Par.v0 1 17 ?_
   refine Par.v0 2 16 ?_
   refine Par.v0 3 15 ?_
   refine lE 4 14 2 (fun _ hX => BlkJ.rx ((hE.trans hX).at_ hpj)) hJ.out.x ?_
   refine lX 5 13 (fun X hX => let ⟨o, hbl, ho⟩ := vbr6_4.ext hX; ⟨o, hbl.range, ho⟩) ?_
   refine fc 6 12 1 3 4 (fun X hX _ _ h h' => fm_any X (hn.out.ext hP0' (hE.trans hX)).fr.ff h h') E_u3.out ?_
   refine Par.c0 7 11 (fun f => #[f 0, f 5]) (F' := 217) (fun f X hX hR => ?_) ?_
   · have e0 : f 0 = _ := hR.out 0 rfl
     obtain ⟨o5, (e5 : f 5 = _), h5⟩ := hR.out 5 rfl
     simp only [e0, e5]
     refine (from_f X (hn.out.ext hP0' (hE.trans hX)).fr h5).mono ?_
     rintro e w2 ⟨A1, c1, rfl, hO, hB⟩
     exact ⟨_, rfl, hB, fun Y hY => ⟨A1, c1, rfl, (hO.mono (Nat.le_trans Hqs.out (hE.trans hX).bsize)).below hY (Nat.le_refl _)⟩⟩
   refine Par.v0 8 10 ?_
   refine Par.v0 9 9 ?_
   refine Par.v0 10 8 ?_
   refine lE 11 7 9 (fun _ hX => BlkJ.ry ((hE.trans hX).at_ hpj) hJ.out.x.elt.six) hJ.out.y ?_
   refine Par.v0 12 6 ?_
   refine lX 13 5 (fun X hX => let ⟨o, hbl, ho⟩ := vbr6_4.ext hX; ⟨o, hbl.range, ho⟩) ?_
   refine lX 14 4 (fun X hX => let ⟨o, hbl, ho⟩ := vbr5_5.ext hX; ⟨o, hbl.range, ho⟩) ?_
   refine fc 15 3 11 12 13 (fun X hX _ _ h h' => fm_any X (hn.out.ext hP0' (hE.trans hX)).fr.ff h h') E_u4.out ?_
   refine fc 16 2 8 10 14 (fun X hX _ _ h h' => fm_any X (hn.out.ext hP0' (hE.trans hX)).fr.ff h h') E_u5.out ?_
   refine Par.c0 17 1 (fun f => #[f 7, f 15]) (F' := 217) (fun f X hX hR => ?_) ?_
   · have e7 : f 7 = _ := hR.out 7 rfl
     obtain ⟨o15, (e15 : f 15 = _), h15⟩ := hR.out 15 rfl
     simp only [e7, e15]
     refine (from_f X (hn.out.ext hP0' (hE.trans hX)).fr h15).mono ?_
     rintro e w2 ⟨A1, c1, rfl, hO, hB⟩
     exact ⟨_, rfl, hB, fun Y hY => ⟨A1, c1, rfl, (hO.mono (Nat.le_trans Hqs.out (hE.trans hX).bsize)).below hY (Nat.le_refl _)⟩⟩
   refine Par.S 18 0 [(36, 0), (37, 1), (38, 2), (39, 3), (40, 4), (41, 5), (42, 6), (43, 7), (44, 8), (45, 9), (46, 10), (47, 11), (48, 12), (49, 13), (50, 14), (51, 15), (52, 16)] (fun f X hX hR K hK => ?_) ?_
   · obtain ⟨A6, c6, (e6 : f 6 = _), o6⟩ := hR.out 6 rfl
     obtain ⟨A16, c16, (e16 : f 16 = _), o16⟩ := hR.out 16 rfl
     simp only [yA, yB, yC, yD, yE, e6, e16]
     refine ⟨?_⟩
     go_simp
     exact hK.out _ _ _ (by simp only [yA, yB, yC, yD, yE, e6, e16]) (Ext.refl _) trivial (fun Y hY => ⟨A6, c6, A16, c16, rfl, o6.below hY (Nat.le_refl _), o16.below hY (Nat.le_refl _)⟩)
   refine Par.AllOps.fin ⟨fun f X hX hR hal hap => ?_⟩
   obtain ⟨o3, (e3 : f 3 = _), h3⟩ := hR 3 (by decide)
   obtain ⟨o4, (e4 : f 4 = _), h4⟩ := hR 4 (by decide)
   obtain ⟨o5, (e5 : f 5 = _), h5⟩ := hR 5 (by decide)
   obtain ⟨A6, c6, (e6 : f 6 = _), o6⟩ := hR 6 (by decide)
   obtain ⟨o10, (e10 : f 10 = _), h10⟩ := hR 10 (by decide)
   obtain ⟨o12, (e12 : f 12 = _), h12⟩ := hR 12 (by decide)
   obtain ⟨o13, (e13 : f 13 = _), h13⟩ := hR 13 (by decide)
   obtain ⟨o14, (e14 : f 14 = _), h14⟩ := hR 14 (by decide)
   obtain ⟨o15, (e15 : f 15 = _), h15⟩ := hR 15 (by decide)
   obtain ⟨A16, c16, (e16 : f 16 = _), o16⟩ := hR 16 (by decide)
   obtain ⟨A17, c17, B17, d17, (e17 : f 17 = _), o17, p17⟩ := hR 17 (by decide)
   simp only [yA, yB, yD, yE, e3, e4, e5, e6, e10, e12, e13, e14, e15, e16, e17]
   clear hR hal hap e3 e4 e5 e6 e10 e12 e13 e14 e15 e16 e17
   refine Par.Chain.next (fun K hK => ⟨Par.want (by kernel_rfl) (wp_storeV (cs' := #[.bool false, .slice A17 (digs 18446744073709551616 (u3 % M)).length c17, .slice B17 (digs 18446744073709551616 (u5 % M)).length d17]) (t := 114) 114 (.tmp 4) (.tmp 53) rfl rfl rfl rfl (hX.at_ hb1) infoP rfl (pt_one _ _ _ _ _ _ _) (fun Y hY1 hY2 hY3 => hK.out _ _ ?_))⟩)
   refine Par.Chain.done ?_
   go_wp2
   exact end_p rfl rfl rfl hY1 ⟨_, rfl, ⟨A17, c17, B17, d17, rfl, o17.just hY2 (hX.at_ hb1) (by decide), p17.just hY2 (hX.at_ hb1) (by decide)⟩, hY2.ext (HE0.out.trans (hE.trans hX)) (by have := Hq.out; omega)⟩
end Go.Proofs.YtendnkpiidhogaaGreat

namespace Go.Proofs.YtendnkpiidhogaaGreat
open Go.RowKit

def APt (w : World) (v : Value) (inf : Bool) (x y : Nat) : Prop := ∃ (A A' : Option Addr) (c c' : Nat) (a b : List Nat), v = .agg #[.bool inf, .slice A a.length c, .slice A' b.length c'] ∧ RU w A c a ∧ RU w A' c' b ∧ val 18446744073709551616 a = x ∧ val 18446744073709551616 b = y
theorem APt.ext {w X : World} {v : Value} {inf : Bool} {x y : Nat} (h : APt w v inf x y) (hE : Ext w X) : APt X v inf x y := by
 obtain ⟨A, A', c, c', a, b, rfl, ha, hb, hx, hy⟩ := h
 exact ⟨A, A', c, c', a, b, rfl, RN.up ha hE, RN.up hb hE, hx, hy⟩
theorem APt.inf_ (w : World) : APt w infV true 0 0 := ⟨none, none, 0, 0, [], [], rfl, RN.nil_ _ _, RN.nil_ _ _, rfl, rfl⟩
theorem PtV.pt {w : World} {base : Nat} {v : Value} {o : Option (Nat × Nat)} (h : PtV w base v o) : APt w v o.isNone (o.elim 0 (·.1)) (o.elim 0 (·.2)) := by
  cases o with
  | none => cases h; exact APt.inf_ w
  | some p =>
    obtain ⟨A, c, A', c', rfl, h1, h2⟩ := h
    exact ⟨A, A', c, c', _, _, rfl, h1.ru, h2.ru, val_digs (by omega) _, val_digs (by omega) _⟩
theorem PtV.ext {w X : World} {base : Nat} {v : Value} {o : Option (Nat × Nat)} (h : PtV w base v o) (hE : Ext w X) : PtV X base v o := by
  cases o with
  | none => exact h
  | some p =>
    obtain ⟨A, c, A', c', rfl, h1, h2⟩ := h
    exact ⟨A, c, A', c', rfl, h1.below hE (Nat.le_refl _), h2.below hE (Nat.le_refl _)⟩
theorem PtV.mono {w : World} {base base' : Nat} {v : Value} {o : Option (Nat × Nat)} (h : PtV w base v o) (hb : base' ≤ base) : PtV w base' v o := by
  cases o with
  | none => exact h
  | some p =>
    obtain ⟨A, c, A', c', rfl, h1, h2⟩ := h
    exact ⟨A, c, A', c', rfl, h1.mono hb, h2.mono hb⟩
def JAt (C : Crv) (v : Value) (p : Nat × Nat × Nat) : Prop := ∃ lx ly lz, v = JV lx ly lz ∧ FJ C.M C.n lx ly lz p.1 p.2.1 p.2.2
def upP (inf : Bool) (x y : Nat) : Nat × Nat × Nat := if inf then (1, 1, 0) else (x, y, 1)
def addT (M : Nat) (p q : Nat × Nat × Nat) : Nat × Nat × Nat := addP M p.1 p.2.1 p.2.2 q.1 q.2.1 q.2.2
def dblT (M : Nat) (p : Nat × Nat × Nat) : Nat × Nat × Nat := dblP M p.1 p.2.1 p.2.2
def downT (M : Nat) (p : Nat × Nat × Nat) : Option (Nat × Nat) := downP M p.1 p.2.1 p.2.2
def onQ (C : Crv) (inf : Bool) (x y : Nat) : Bool := inf || onB C.M C.bb x y
theorem onB_lt {M bb x y : Nat} (h : onB M bb x y = true) : x < M ∧ y < M := by
 simp only [onB, Bool.and_eq_true, decide_eq_true_eq] at h
 exact h.1
theorem onQ_lt {C : Crv} {inf : Bool} {x y : Nat} (h : onQ C inf x y = true) (hi : inf = false) : x < C.M ∧ y < C.M := by
 subst hi
 exact onB_lt h
section
variable {C : Crv} {w : World} {k : Nat} {v u : Value}
theorem on_j (h : OfC C w k) (hC : C.Fine) {inf : Bool} {x y : Nat} (hv : APt w v inf x y) : Calls Tryz.prog 138 #[.pointer (some ⟨k, 0, none⟩), v] w fun e w' => e = .returned (.bool (onQ C inf x y)) ∧ Ext w w' := by
 obtain ⟨A, A', c, c', a, b, rfl, ha, hb, rfl, rfl⟩ := hv
 exact on_c h hC _ _ A A' c c' a b inf ha hb (fun _ h => h) (fun _ h => h)
theorem up_j (h : OfC C w k) {inf : Bool} {x y : Nat} (hv : APt w v inf x y) (ho : onQ C inf x y = true) : Calls Tryz.prog 179 #[.pointer (some ⟨k, 0, none⟩), v] w fun e w' => ∃ o, e = .returned o ∧ JAt C o (upP inf x y) ∧ Ext w w' := by
 obtain ⟨A, A', c, c', a, b, rfl, ha, hb, rfl, rfl⟩ := hv
 obtain ⟨P0, g, inv, ml, ol, rl, tl, fl, Ap, An, Ab, Ax, Ay, cp, cn, cb, cx, cy, hn, hP⟩ := h
 refine (up_any _ _ A A' c c' a b inf w hn hP ha hb (fun _ h => h) (fun _ h => h) (fun hi => (onQ_lt ho hi).1) (fun hi => (onQ_lt ho hi).2)).mono ?_
 rintro e w' ⟨ox, oy, oz, rfl, hf, hE⟩
 refine ⟨_, rfl, ⟨ox, oy, oz, rfl, ?_⟩, hE⟩
 cases inf <;> exact hf
theorem double_j (h : OfC C w k) {p : Nat × Nat × Nat} (hv : JAt C v p) : Calls Tryz.prog 182 #[.pointer (some ⟨k, 0, none⟩), v] w fun e w' => ∃ o, e = .returned o ∧ JAt C o (dblT C.M p) ∧ Ext w w' := by
 obtain ⟨lx, ly, lz, rfl, hf⟩ := hv
 obtain ⟨P0, g, inv, ml, ol, rl, tl, fl, Ap, An, Ab, Ax, Ay, cp, cn, cb, cx, cy, hn, hP⟩ := h
 refine (double_any w hn hP hf).mono ?_
 rintro e w' ⟨ox, oy, oz, rfl, hf', hE⟩
 exact ⟨_, rfl, ⟨ox, oy, oz, rfl, hf'⟩, hE⟩
theorem add_j (h : OfC C w k) {p q : Nat × Nat × Nat} (hv : JAt C v p) (hu : JAt C u q) : Calls Tryz.prog 180 #[.pointer (some ⟨k, 0, none⟩), v, u] w fun e w' => ∃ o, e = .returned o ∧ JAt C o (addT C.M p q) ∧ Ext w w' := by
 obtain ⟨lx, ly, lz, rfl, hf⟩ := hv
 obtain ⟨mx, my, mz, rfl, hg⟩ := hu
 obtain ⟨P0, g, inv, ml, ol, rl, tl, fl, Ap, An, Ab, Ax, Ay, cp, cn, cb, cx, cy, hn, hP⟩ := h
 refine (jadd_any w hn hP hf hg).mono ?_
 rintro e w' ⟨ox, oy, oz, rfl, hf', hE⟩
 exact ⟨_, rfl, ⟨ox, oy, oz, rfl, hf'⟩, hE⟩
theorem down_j (h : OfC C w k) {p : Nat × Nat × Nat} (hpl : C.pl.length < 100000) (hv : JAt C v p) : Calls Tryz.prog 183 #[.pointer (some ⟨k, 0, none⟩), v] w fun e w' => ∃ o, e = .returned o ∧ PtV w' w.heap.size o (downT C.M p) ∧ Ext w w' := by
 obtain ⟨lx, ly, lz, rfl, hf⟩ := hv
 obtain ⟨P0, g, inv, ml, ol, rl, tl, fl, Ap, An, Ab, Ax, Ay, cp, cn, cb, cx, cy, hn, hP⟩ := h
 exact down_any w hn hP hpl hf
end
theorem IsC.plen {c : Int} {C : Crv} (h : IsC c C) : C.pl.length < 100000 := by
 rcases h with ⟨_, rfl⟩ | ⟨_, rfl⟩ <;> decide
end Go.Proofs.YtendnkpiidhogaaGreat

namespace Go.Proofs.YtendnkpiidhogaaGreat
open Go.RowKit

def z85 : Array Value := Array.replicate 288 (.int .u64 0)
theorem info85s : (Tryz.prog.info? 201).map (·.size) = some 288 := by kernel_rfl
theorem z85_size : z85.size = 288 := by kernel_rfl
def JRow (C : Crv) (X : World) (b i : Nat) (p : Nat × Nat × Nat) : Prop := ∃ x y z, X.rangeAt b (18 * i) (nts (x ++ y ++ z)) ∧ FJ C.M C.n x y z p.1 p.2.1 p.2.2
structure TabAt (C : Crv) (X : World) (b : Nat) (t : Nat → Nat × Nat × Nat) (n : Nat) : Prop where
 blk : ∃ cs : Array Value, X.heap[b]? = some (.cells cs 201 (0, 0)) ∧ cs.size = 288
 row : ∀ i, i < n → JRow C X b i (t i)
section
variable {C : Crv} {X Y : World} {b n : Nat} {t : Nat → Nat × Nat × Nat}
theorem TabAt.lt (h : TabAt C X b t n) : b < X.heap.size := by
 obtain ⟨cs, hb, _⟩ := h.blk
 exact blk_lt hb
theorem TabAt.same (h : TabAt C X b t n) (hb : Y.heap[b]? = X.heap[b]?) : TabAt C Y b t n := by
 obtain ⟨cs, h1, h2⟩ := h.blk
 refine ⟨⟨cs, hb.trans h1, h2⟩, fun i hi => ?_⟩
 obtain ⟨x, y, z, hr, hf⟩ := h.row i hi
 exact ⟨x, y, z, fun j v hv => (World.cell?_of_block hb).trans (hr j v hv), hf⟩
theorem TabAt.ext (h : TabAt C X b t n) (hE : Ext X Y) : TabAt C Y b t n := h.same (Below.block hE b h.lt)
theorem TabAt.just {g : Nat} (h : TabAt C X b t n) (hj : Just g X Y) (hg : b ≠ g) : TabAt C Y b t n := h.same (hj.block b h.lt hg)
theorem len18 {x y z : List Nat} {M m : Nat} {p : Nat × Nat × Nat} (h : FJ M m x y z p.1 p.2.1 p.2.2) : (nts (x ++ y ++ z)).length = 18 := by
 rw [nts_length, List.length_append, List.length_append, h.x.elt.six, h.y.elt.six, h.z.elt.six]
theorem wp_loadT {op : Oper} {a : Act} {K : Act → World → Prop} {Q : Exit → Act → World → Prop} (x : Operand) (ho : op.op = .load 199 x) {i : Nat} (h : TabAt C X b t n) (hi : i < n) {o : Nat} (hoi : 18 * i = o) (hx : a.eval x = .pointer (some ⟨b, o, none⟩)) (hK : ∀ v, JAt C v (t i) → K (a.put op.dst v) X) : op.wp Tryz.prog a X K Q := by
 obtain ⟨lx, ly, lz, hr, hf⟩ := h.row i hi
 subst hoi
 exact wp_load_mid 199 x ho b (18 * i) hx _ _ hr Tryz.underlying199 rfl (by rw [len18 hf]; exact infoJ) (hK _ ⟨lx, ly, lz, rfl, hf⟩)
theorem set_blk {T : TypeId} (b : Nat) : ∀ (vs : List Value) (o : Nat) (X : World) (cs : Array Value), X.heap[b]? = some (.cells cs T (0, 0)) → ∃ ds : Array Value, (X.setCells b o vs).heap[b]? = some (.cells ds T (0, 0)) ∧ ds.size = cs.size
  | [], _, X, cs, h => ⟨cs, h, rfl⟩
  | v :: vs, o, X, cs, h => by
    obtain ⟨ds, h1, h2⟩ := set_blk b vs (o + 1) (X.setCell ⟨b, o, none⟩ v) _ (blk_set h o v)
    exact ⟨ds, h1, by rw [h2]; simp⟩
theorem setCells_just (b : Nat) : ∀ (vs : List Value) (o : Nat) (X : World), Just b X (X.setCells b o vs) ∧ (X.setCells b o vs).heap.size = X.heap.size
  | [], _, X => ⟨Just.refl b X, rfl⟩
  | v :: vs, o, X => by
    obtain ⟨h1, h2⟩ := setCells_just b vs (o + 1) (X.setCell ⟨b, o, none⟩ v)
    exact ⟨((Just.refl b X).set o v).trans h1, h2.trans (by simp [World.setCell])⟩
theorem wp_storeT {op : Oper} {a : Act} {K : Act → World → Prop} {Q : Exit → Act → World → Prop} (x y : Operand) (ho : op.op = .store 199 x y) (hd : op.dst = none) (h : TabAt C X b t n) (hn : n < 16) {v : Value} (hv : JAt C v (t n)) {o : Nat} (hoi : 18 * n = o) (hx : a.eval x = .pointer (some ⟨b, o, none⟩)) (hy : a.eval y = v)
 (hK : ∀ Y, TabAt C Y b t (n + 1) → Just b X Y → Y.heap.size = X.heap.size → K a Y) : op.wp Tryz.prog a X K Q := by
 obtain ⟨lx, ly, lz, rfl, hf⟩ := hv
 obtain ⟨cs, hb, hs⟩ := h.blk
 subst hoi
 have hl := len18 hf
 have ht : X.there b (18 * n) (nts (lx ++ ly ++ lz)).toArray.size := fun j hj => by
  rw [List.size_toArray, hl] at hj
  refine ⟨?_, blk_free hb _⟩
  rw [blk_cell hb]
  simp [hs]
  omega
 refine wp_store_mid 199 x y ho b (18 * n) _ hx hy ht (by rw [List.size_toArray, hl]; exact infoJ) (all_one _) ?_
 rw [hd]
 obtain ⟨h1, h2⟩ := setCells_just b (nts (lx ++ ly ++ lz)) (18 * n) X
 refine hK _ ⟨?_, fun i hi => ?_⟩ h1 h2
 · obtain ⟨ds, h3, h4⟩ := set_blk b (nts (lx ++ ly ++ lz)) (18 * n) X cs hb
   exact ⟨ds, h3, h4.trans hs⟩
 · rcases Nat.lt_or_ge i n with hlt | hge
   · obtain ⟨mx, my, mz, hr, hg⟩ := h.row i hlt
     exact ⟨mx, my, mz, World.rangeAt_setCells_apart hr _ _ _ (.inr (.inl (by rw [len18 hg]; omega))), hg⟩
   · obtain rfl : i = n := by omega
     exact ⟨lx, ly, lz, World.rangeAt_setCells_same _ _ _ _ (by rwa [List.size_toArray] at ht), hf⟩
end
theorem six3 {l : List Nat} (h : l.length = 18) : ∃ a0 a1 a2 a3 a4 a5 a6 a7 a8 a9 b0 b1 b2 b3 b4 b5 b6 b7, l = [a0, a1, a2, a3, a4, a5, a6, a7, a8, a9, b0, b1, b2, b3, b4, b5, b6, b7] := by
 match l, h with
 | [a0, a1, a2, a3, a4, a5, a6, a7, a8, a9, b0, b1, b2, b3, b4, b5, b6, b7], _ => exact ⟨_, _, _, _, _, _, _, _, _, _, _, _, _, _, _, _, _, _, rfl⟩
theorem built85 {x y : List Nat} (hx : x.length = 18) (hy : y.length = 18) : Tryz.prog.built 201 [(0, .agg (nts x).toArray), (1, .agg (nts y).toArray)] = some (nts (x ++ y ++ List.replicate 252 0)).toArray := by
 obtain ⟨a0, a1, a2, a3, a4, a5, a6, a7, a8, a9, b0, b1, b2, b3, b4, b5, b6, b7, rfl⟩ := six3 hx
 obtain ⟨c0, c1, c2, c3, c4, c5, c6, c7, c8, c9, d0, d1, d2, d3, d4, d5, d6, d7, rfl⟩ := six3 hy
 kernel_rfl
theorem wp_build85 {C : Crv} {op : Oper} {a : Act} {X : World} {K : Act → World → Prop} {Q : Exit → Act → World → Prop} (p q : Operand) (ho : op.op = .build 201 #[(0, p), (1, q)]) {v u : Value} {x y : Nat × Nat × Nat} (hp : a.eval p = v) (hq : a.eval q = u) (hv : JAt C v x) (hu : JAt C u y)
 (hK : ∀ cs : Array Value, cs.size = 288 → cs.all (·.oneCell') = true → (∀ W b, W.heap[b]? = some (.cells cs 201 (0, 0)) → ∀ t : Nat → Nat × Nat × Nat, t 0 = x → t 1 = y → TabAt C W b t 2) → K (a.put op.dst (.agg cs)) X) : op.wp Tryz.prog a X K Q := by
 obtain ⟨x1, x2, x3, rfl, hf⟩ := hv
 obtain ⟨y1, y2, y3, rfl, hg⟩ := hu
 have hlx : (x1 ++ x2 ++ x3).length = 18 := by have := len18 hf; rwa [nts_length] at this
 have hly : (y1 ++ y2 ++ y3).length = 18 := by have := len18 hg; rwa [nts_length] at this
 have hb : (#[(0, p), (1, q)].map fun (i, x) => (i, a.eval x)).toList = [(0, .agg (nts (x1 ++ x2 ++ x3)).toArray), (1, .agg (nts (y1 ++ y2 ++ y3)).toArray)] := by simp [hp, hq, JV]
 have hs : (x1 ++ x2 ++ x3 ++ (y1 ++ y2 ++ y3) ++ List.replicate 252 0).length = 288 := by rw [List.length_append, List.length_append, hlx, hly, List.length_replicate]
 refine wp_build 201 #[(0, p), (1, q)] ho (by rw [hb, built85 hlx hly]; rfl) ?_
 rw [hb, built85 hlx hly, Option.getD_some]
 refine hK _ (by rw [List.size_toArray, nts_length, hs]) (all_one _) fun W b h t h0 h1 => ⟨⟨_, h, by rw [List.size_toArray, nts_length, hs]⟩, fun i hi => ?_⟩
 have key : ∀ pre l post : List Nat, x1 ++ x2 ++ x3 ++ (y1 ++ y2 ++ y3) ++ List.replicate 252 0 = pre ++ l ++ post → W.rangeAt b pre.length (nts l) := fun pre l post e j v hv => by
  rw [blk_cell h, e, List.getElem?_toArray, nts_append, nts_append, List.append_assoc, List.getElem?_append_right (by rw [nts_length]; omega), nts_length, Nat.add_sub_cancel_left, List.getElem?_append_left, hv]
  exact (List.getElem?_eq_some_iff.1 hv).1
 rcases (show i = 0 ∨ i = 1 by omega) with rfl | rfl
 · rw [h0]
   exact ⟨x1, x2, x3, by have := key [] (x1 ++ x2 ++ x3) _ (by rw [List.nil_append, List.append_assoc]); simpa using this, hf⟩
 · rw [h1]
   exact ⟨y1, y2, y3, by have := key (x1 ++ x2 ++ x3) (y1 ++ y2 ++ y3) _ rfl; rwa [hlx] at this, hg⟩
end Go.Proofs.YtendnkpiidhogaaGreat

namespace Go.Proofs.YtendnkpiidhogaaGreat
open Go.RowKit

theorem ptv_store {X : World} {base b : Nat} {v : Value} {o : Option (Nat × Nat)} (h : PtV X base v o) : ∃ x0 x1 x2, v = .agg #[x0, x1, x2] ∧ (#[x0, x1, x2] : Array Value).all (·.oneCell') = true ∧ ∀ Y, Just b X Y → (∃ cs, X.heap[b]? = some (.cells cs 114 (0, 0))) → PtV Y base v o := by
  cases o with
  | none => cases h; exact ⟨_, _, _, rfl, pt_one _ _ _ _ _ _ _, fun _ _ _ => rfl⟩
  | some p =>
    obtain ⟨A, c, A', c', rfl, h1, h2⟩ := h
    exact ⟨_, _, _, rfl, pt_one _ _ _ _ _ _ _, fun Y hj ⟨cs, hb⟩ => ⟨A, c, A', c', rfl, h1.just hj hb (by decide), h2.just hj hb (by decide)⟩⟩
end Go.Proofs.YtendnkpiidhogaaGreat

namespace Go.Proofs.YtendnkpiidhogaaGreat
open Go.RowKit Go.Shelf

attribute [local go_sem] Oper.semAt_some

def tabP (M : Nat) (p : Nat × Nat × Nat) : Nat → Nat × Nat × Nat
 | 0 => (1, 1, 0)
 | 1 => p
 | k + 2 => addT M (tabP M p (k + 1)) p
def mulS (M : Nat) (p : Nat × Nat × Nat) (E : Nat) : Nat → (Nat × Nat × Nat) × Nat
 | 0 => ((1, 1, 0), 0)
 | k + 1 => if (bitAt E k).1 % 4 = 0 then (addT M (dblT M (mulS M p E k).1) (tabP M p (2 * (mulS M p E k).2 + (bitAt E k).2)), 0) else (dblT M (mulS M p E k).1, 2 * (mulS M p E k).2 + (bitAt E k).2)
def mulC (C : Crv) (bi : Bool) (x y E : Nat) : Option (Option (Nat × Nat)) := if onQ C bi x y = true then (if nbits E ≤ 4096 then some (downT C.M (mulS C.M (upP bi x y) E (nbits E)).1) else none) else none
theorem one_set {X : World} {b : Nat} {u : Value} {T : TypeId} (h : X.heap[b]? = some (.cells #[u] T (0, 0))) (v : Value) : (X.setCell ⟨b, 0, none⟩ v).heap[b]? = some (.cells #[v] T (0, 0)) ∧ Just b X (X.setCell ⟨b, 0, none⟩ v) :=
 ⟨by simpa using blk_set h 0 v, (Just.refl b X).set 0 v⟩
def JBlk (C : Crv) (X : World) (b : Nat) (p : Nat × Nat × Nat) : Prop := ∃ x y z, BlkJ X b x y z ∧ FJ C.M C.n x y z p.1 p.2.1 p.2.2
theorem BlkJ.lt' {X : World} {b : Nat} {x y z : List Nat} (h : BlkJ X b x y z) : b < X.heap.size := blk_lt h
theorem JBlk.ext {C : Crv} {X Y : World} {b : Nat} {p : Nat × Nat × Nat} (h : JBlk C X b p) (hE : Ext X Y) : JBlk C Y b p := let ⟨x, y, z, h1, h2⟩ := h; ⟨x, y, z, hE.at_ h1, h2⟩
theorem dig_lt (M : Nat) (p : Nat × Nat × Nat) (E : Nat) : ∀ k, k < nbits E → (mulS M p E k).2 * 2 ^ ((nbits E - 1 - k) % 4) < 8
 | 0, _ => by rw [show (mulS M p E 0).2 = 0 from rfl]; omega
 | k + 1, h => by
  have ih := dig_lt M p E k (by omega)
  have hb : (bitAt E k).2 < 2 := Nat.mod_lt _ (by omega)
  have hi : (bitAt E k).1 = nbits E - 1 - k := rfl
  simp only [mulS]
  split
  · simp
  · rename_i hne
    rw [hi] at hne
    obtain ⟨i, hi'⟩ : ∃ i, nbits E - 1 - k = i := ⟨_, rfl⟩
    rw [hi'] at ih hne
    rw [show nbits E - 1 - (k + 1) = i - 1 by omega]
    have hr : i % 4 = 1 ∨ i % 4 = 2 ∨ i % 4 = 3 := by omega
    show (2 * (mulS M p E k).2 + (bitAt E k).2) * _ < 8
    rcases hr with hr | hr | hr
    · rw [hr] at ih
      rw [show (i - 1) % 4 = 0 by omega]
      omega
    · rw [hr] at ih
      rw [show (i - 1) % 4 = 1 by omega]
      omega
    · rw [hr] at ih
      rw [show (i - 1) % 4 = 2 by omega]
      omega
theorem dig_lt8 {M : Nat} {p : Nat × Nat × Nat} {E k : Nat} (h : k < nbits E) : (mulS M p E k).2 < 8 := Nat.lt_of_le_of_lt (Nat.le_mul_of_pos_right _ (Nat.pow_pos (by omega))) (dig_lt M p E k h)
theorem res_pt {fn : Func} {tm : Array Value} {W : World} {p u : Tmp} {g : Nat} {ty : TypeId} {fr : Nat × Nat} {x0 x1 x2 v : Value} (hr : fn.results = #[.cell p 114, .tmp u]) (hp : tm.getD p undef = .pointer (some ⟨g, 0, none⟩)) (hu : tm.getD u undef = v)
 (hg : W.heap[g]? = some (.cells #[x0, x1, x2] ty fr)) : (results fn tm).run Tryz.prog W = .ok (.tuple #[.agg #[x0, x1, x2], v]) W := by
 rw [results_cell_tmp hr, hp]
 have h1 : (asAddr (.pointer (some ⟨g, 0, none⟩)) : Sem Addr).run Tryz.prog W = .ok ⟨g, 0, none⟩ W := rfl
 rw [h1, Result.andThen_ok, run_loadVar_row W g ty 114 #[x0, x1, x2] fr _ hg Tryz.underlying114 rfl infoP, Result.andThen_ok, hu]
theorem JBlk.just {C : Crv} {X Y : World} {b g : Nat} {p : Nat × Nat × Nat} (h : JBlk C X b p) (hj : Just g X Y) (hb : b ≠ g) : JBlk C Y b p := let ⟨x, y, z, h1, h2⟩ := h; ⟨x, y, z, hj.at_ hb h1, h2⟩
theorem OB.putC {X : World} {base D : Nat} {A : Option Addr} {c : Nat} {l : List Nat} {o o' : Obj} (h : OB X base A c l) (hD : X.heap[D]? = some o) (hc : o.isCells = false) : OB (X.putObj D o') base A c l := by
 obtain ⟨h1, h2, h3, h4⟩ := h
 refine ⟨h1, h2, h3, fun hl => ?_⟩
 obtain ⟨g, cur, e, hg, hgc, hr⟩ := h4 hl
 refine ⟨g, cur, e, hg, (World.putObj_heap_other (fun e => ?_)).trans hgc, hr⟩
 subst e
 rw [hD] at hgc
 cases hgc
 cases hc
theorem PtV.put {X : World} {base D : Nat} {v : Value} {p : Option (Nat × Nat)} {o' : Obj} (h : PtV X base v p) (hD : X.heap[D]? = some (.deferred (some []))) : PtV (X.putObj D o') base v p := by
 cases p with
 | none => exact h
 | some p =>
  obtain ⟨A, c, A', c', rfl, h1, h2⟩ := h
  exact ⟨A, c, A', c', rfl, h1.putC hD rfl, h2.putC hD rfl⟩
structure MK (n0 t bo be : Nat) (w3 V Z : World) : Prop where
 keeps : Keeps n0 (n0 + 2) 0 V Z
 stay : Stay t n0 V Z
 below : Below bo w3 Z
 tab : Z.heap[be]? = V.heap[be]?
 size : n0 ≤ Z.heap.size
theorem MK.ext {n0 t bo be : Nat} {w3 V Z Z' : World} (h : MK n0 t bo be w3 V Z) (hE : Ext Z Z') (hbe : be < n0) (hbo : bo ≤ n0) : MK n0 t bo be w3 V Z' :=
 ⟨h.keeps.trans (Keeps.below hE (Nat.le_refl _)), Stay.trans h.stay (hE.stay h.size), h.below.trans (Below.mono hE (by have := h.size; omega)), (Below.block hE be (by have := h.size; omega)).trans h.tab, Nat.le_trans h.size hE.bsize⟩
theorem MK.just {n0 t bo be g : Nat} {w3 V Z Z' : World} {cs : Array Value} {T : TypeId} {fr : Nat × Nat} (h : MK n0 t bo be w3 V Z) (hj : Just g Z Z') (hg : Z.heap[g]? = some (.cells cs T fr)) (hgt : g < t) (hgb : bo ≤ g) (hne : be ≠ g) (hbe : be < n0) (hbo : bo ≤ n0) : MK n0 t bo be w3 V Z' :=
 ⟨h.keeps.trans (Keeps.just hj hg), Stay.trans h.stay (hj.stay hgt h.size), h.below.trans (hj.below hgb (by have := h.size; omega)), (hj.block be (by have := h.size; omega) hne).trans h.tab, Nat.le_trans h.size hj.size⟩
theorem JBlk.below {C : Crv} {X Y : World} {b B : Nat} {p : Nat × Nat × Nat} (h : JBlk C X b p) (hB : Below B X Y) (hb : b < B) : JBlk C Y b p := let ⟨x, y, z, h1, h2⟩ := h; ⟨x, y, z, (hB.block b hb).trans h1, h2⟩
set_option maxRecDepth 100000 in
set_option maxHeartbeats 8000000 in
theorem mul_c {c : Int} {C : Crv} (hC : IsC c C) {p : Value} {bi : Bool} {x y E : Nat} {An : Option Addr} {cn : Nat} {n : List Nat} (w : World) (hp : APt w p bi x y) (hn : RU w An cn n) (hE : val 18446744073709551616 n = E) :
 Calls Tryz.prog 141 #[.int .i64 c, .slice An n.length cn, p] w fun e w' => ∃ o, e = .returned (.tuple #[o, .bool (mulC C bi x y E).isSome]) ∧ PtV w' w.heap.size o (mulC C bi x y E).join ∧ Ext w w' := by
 obtain ⟨A, A', ca, cb, a, b, rfl, ha, hb, hx, hy⟩ := hp
 have hp : APt w (.agg #[.bool bi, .slice A a.length ca, .slice A' b.length cb]) bi x y := ⟨A, A', ca, cb, a, b, rfl, ha, hb, hx, hy⟩
 obtain ⟨W0, hW0⟩ : ∃ W0, W0 = (w.alloc (.cells #[.bool bi, .slice A a.length ca, .slice A' b.length cb] 114)).alloc (.cells #[.bool false, .slice none 0 0, .slice none 0 0] 114) := ⟨_, rfl⟩
 obtain ⟨q, hq⟩ : ∃ q, w.heap.size = q := ⟨_, rfl⟩
 have hE0 : Ext w W0 := by rw [hW0]; exact (Ext.alloc _ _).trans (Ext.alloc _ _)
 obtain ⟨h1, h3, hz0⟩ := two_at2 w (.cells #[.bool bi, .slice A a.length ca, .slice A' b.length cb] 114) (.cells #[.bool false, .slice none 0 0, .slice none 0 0] 114)
 rw [← hW0, hq] at h1 h3 hz0
 have hp0 := Lib.hid (hp.ext hE0)
 have HE0 := Lib.hid hE0
 have Hz0 := Lib.hid hz0
 have HC := Lib.hid hC
 have HN := Lib.hid (RN.up hn hE0)
 have HE := Lib.hid hE
 rw [hq]
 obtain ⟨res, hres⟩ : ∃ o, mulC C bi x y E = o := ⟨_, rfl⟩
 rw [hres]
 have Hres := Lib.hid hres
 clear hp hE0 hz0 hC hres ha hb hx hy hn hE
 obtain ⟨o1, ho1⟩ : ∃ o, onQ C bi x y = o := ⟨_, rfl⟩
 have Ho1 := Lib.hid ho1
 obtain ⟨nb, hnb⟩ : ∃ o, nbits E = o := ⟨_, rfl⟩
 have Hnb := Lib.hid hnb
 clear ho1 hnb
 cases o1
 case false =>
  obtain rfl : res = none := by rw [← Hres.out, mulC, if_neg (by rw [Ho1.out]; decide)]
  go_enter Tryz.func141, Tryz.ntmps141
  go_upto_region 1 with fail
  rw [← hW0]
  have Hq := Lib.hid hq
  clear hW0 hq
  go_upto_region 2 with (go_at_call 136; refine (of_c HC.out _).mono ?_; rintro e wa ⟨k1, rfl, hk1, hE1⟩)
  obtain ⟨b2, hb2⟩ : ∃ b, wa.heap.size = b := ⟨_, rfl⟩
  have h2 := heap_alloc_new wa (.cells #[.pointer (some ⟨k1, 0, none⟩)] 155)
  have hA := Ext.alloc wa (.cells #[.pointer (some ⟨k1, 0, none⟩)] 155)
  rw [hb2] at h2
  have hz1 : (wa.alloc (.cells #[.pointer (some ⟨k1, 0, none⟩)] 155)).heap.size = b2 + 1 := by rw [World.size_alloc, hb2]
  generalize hW1 : wa.alloc (.cells #[.pointer (some ⟨k1, 0, none⟩)] 155) = W1 at *
  rw [hb2]
  have Hk1 := Lib.hid (hk1.ext hA)
  have HE1 := Lib.hid (hE1.trans hA)
  have Hz1 := Lib.hid hz1
  have HB2 := Lib.hid (show q + 2 ≤ b2 by have := hE1.bsize; have := Hz0.out; omega)
  replace h1 := HE1.out.at_ h1
  replace h3 := HE1.out.at_ h3
  have ck := blk_cell h2 0
  simp only [List.getElem?_toArray, List.getElem?_cons_zero] at ck
  clear hk1 hE1 hA hz1 hb2 hW1
  refine Par.region_txt 9 [0, 0, 3, 7, 15, 31, 63, 127, 255] [] (fun j f X => match j with
   | 0 => f 0 = .pointer (some ⟨k1, 0, none⟩)
   | 1 => f 1 = .agg #[.bool bi, .slice A a.length ca, .slice A' b.length cb]
   | 2 => f 2 = .bool false
   | 3 => f 3 = .bool true
   | 4 => f 4 = .bool true
   | 5 => f 5 = undef
   | 6 => f 6 = undef
   | 7 => f 7 = undef
   | 8 => f 8 = .bool true
   | _ => True) (by kernel_rfl) [(17, 0), (18, 1), (19, 2), (20, 3), (21, 4), (22, 5), (23, 6), (24, 7), (25, 8)] (by kernel_rfl) ?_
  refine Par.ld0 1 8 ck ?_
  refine lV0 2 7 h1 infoP ?_
  refine Par.c0 3 6 (fun f => #[f 0, f 1]) (F' := 138) (fun f X hX hR => ?_) ?_
  · have e0 : f 0 = _ := hR.out 0 rfl
    have e1 : f 1 = _ := hR.out 1 rfl
    simp only [e0, e1]
    refine (on_j (Hk1.out.ext hX) HC.out.fine (hp0.out.ext (HE1.out.trans hX))).mono ?_
    rw [Ho1.out]
    rintro e w2 ⟨rfl, hB⟩
    exact ⟨_, rfl, hB, fun _ _ => rfl⟩
  refine Par.v1 4 5 2 ?_
  refine Par.v1 5 4 3 ?_
  refine Par.sk 6 3 4 ?_
  refine Par.sk 7 2 4 ?_
  refine Par.sk 8 1 4 ?_
  refine Par.v2 9 0 4 7 ?_
  refine Par.AllOps.fin ⟨fun f X hX hR hal hap => ?_⟩
  have e8 : f 8 = _ := hR 8 (by decide)
  simp only [yA, yB, yD, yE, e8]
  clear hR hal hap e8
  refine Par.Chain.done ?_
  have hb1 := hX.at_ h3
  go_wp2_with (go_at_call 137; refine (none_any _).mono ?_; rintro e wb ⟨rfl, hE2⟩; have hrb2 := hE2.at_ hb1; obtain ⟨z0, z1, z2, f0, f1, f2⟩ := pt_facts hrb2)
  exact end_pt rfl rfl rfl rfl (pt_set hrb2 _ _ _) ⟨_, rfl, rfl, pt_ext (((HE0.out.trans HE1.out).trans hX).trans hE2) (by have := Hq.out; omega) _ _ _⟩
 case true =>
  by_cases hbits : nb ≤ 4096
  case neg =>
   obtain rfl : res = none := by rw [← Hres.out, mulC, if_pos Ho1.out, if_neg (by rw [Hnb.out]; exact hbits)]
   have Hgt := Lib.hid (show (4096 : Int) < (nb : Int) by omega)
   go_enter Tryz.func141, Tryz.ntmps141
   go_upto_region 1 with fail
   rw [← hW0]
   have Hq := Lib.hid hq
   clear hW0 hq
   go_upto_region 2 with (go_at_call 136; refine (of_c HC.out _).mono ?_; rintro e wa ⟨k1, rfl, hk1, hE1⟩)
   obtain ⟨b2, hb2⟩ : ∃ b, wa.heap.size = b := ⟨_, rfl⟩
   have h2 := heap_alloc_new wa (.cells #[.pointer (some ⟨k1, 0, none⟩)] 155)
   have hA := Ext.alloc wa (.cells #[.pointer (some ⟨k1, 0, none⟩)] 155)
   rw [hb2] at h2
   have hz1 : (wa.alloc (.cells #[.pointer (some ⟨k1, 0, none⟩)] 155)).heap.size = b2 + 1 := by rw [World.size_alloc, hb2]
   generalize hW1 : wa.alloc (.cells #[.pointer (some ⟨k1, 0, none⟩)] 155) = W1 at *
   rw [hb2]
   have Hk1 := Lib.hid (hk1.ext hA)
   have HE1 := Lib.hid (hE1.trans hA)
   have Hz1 := Lib.hid hz1
   have HB2 := Lib.hid (show q + 2 ≤ b2 by have := hE1.bsize; have := Hz0.out; omega)
   replace h1 := HE1.out.at_ h1
   replace h3 := HE1.out.at_ h3
   have ck := blk_cell h2 0
   simp only [List.getElem?_toArray, List.getElem?_cons_zero] at ck
   clear hk1 hE1 hA hz1 hb2 hW1
   refine Par.region_txt 9 [0, 0, 3, 7, 15, 31, 63, 127, 255] [] (fun j f X => match j with
    | 0 => f 0 = .pointer (some ⟨k1, 0, none⟩)
    | 1 => f 1 = .agg #[.bool bi, .slice A a.length ca, .slice A' b.length cb]
    | 2 => f 2 = .bool true
    | 3 => f 3 = .bool false
    | 4 => f 4 = .bool false
    | 5 => f 5 = .slice An n.length cn
    | 6 => f 6 = .int .i64 (nb : Int)
    | 7 => f 7 = .bool true
    | 8 => f 8 = .bool true
    | _ => True) (by kernel_rfl) [(17, 0), (18, 1), (19, 2), (20, 3), (21, 4), (22, 5), (23, 6), (24, 7), (25, 8)] (by kernel_rfl) ?_
   refine Par.ld0 1 8 ck ?_
   refine lV0 2 7 h1 infoP ?_
   refine Par.c0 3 6 (fun f => #[f 0, f 1]) (F' := 138) (fun f X hX hR => ?_) ?_
   · have e0 : f 0 = _ := hR.out 0 rfl
     have e1 : f 1 = _ := hR.out 1 rfl
     simp only [e0, e1]
     refine (on_j (Hk1.out.ext hX) HC.out.fine (hp0.out.ext (HE1.out.trans hX))).mono ?_
     rw [Ho1.out]
     rintro e w2 ⟨rfl, hB⟩
     exact ⟨_, rfl, hB, fun _ _ => rfl⟩
   refine Par.v1 4 5 2 ?_
   refine Par.v1 5 4 3 ?_
   refine Par.v1 6 3 4 ?_
   refine Par.c1 7 2 4 (fun f => #[f 5]) (F' := 93) (fun f X hX hR => ?_) ?_
   · have e5 : f 5 = _ := hR.out 5 rfl
     simp only [e5]
     refine (bits_any _ An cn n X (RN.up HN.out (HE1.out.trans hX))).mono ?_
     rw [HE.out, Hnb.out]
     rintro e w2 ⟨rfl, rfl⟩
     exact ⟨_, rfl, (Ext.refl _), fun _ _ => rfl⟩
   refine Par.S 8 1 [(17, 0), (18, 1), (19, 2), (20, 3), (21, 4), (22, 5), (23, 6)] (fun f X hX hR K hK => ?_) ?_
   · have e4 : f 4 = _ := hR.out 4 rfl
     have e6 : f 6 = _ := hR.out 6 rfl
     have hgt : decide ((4096 : Int) < (nb : Int)) = true := decide_eq_true (by have := Hgt.out; omega)
     have hgn : decide (4096 < nb) = true := decide_eq_true (by have := Hgt.out; omega)
     simp only [yA, yB, yC, yD, yE, e4, e6]
     refine ⟨Par.want (by kernel_rfl) ?_⟩
     go_simp
     exact Par.k hK (s := by simp only [yA, yB, yC, yD, yE, e4, e6])
   refine Par.v2 9 0 4 7 ?_
   refine Par.AllOps.fin ⟨fun f X hX hR hal hap => ?_⟩
   have e8 : f 8 = _ := hR 8 (by decide)
   simp only [yA, yB, yD, yE, e8]
   clear hR hal hap e8
   refine Par.Chain.done ?_
   have hb1 := hX.at_ h3
   go_wp2_with (go_at_call 137; refine (none_any _).mono ?_; rintro e wb ⟨rfl, hE2⟩; have hrb2 := hE2.at_ hb1; obtain ⟨z0, z1, z2, f0, f1, f2⟩ := pt_facts hrb2)
   exact end_pt rfl rfl rfl rfl (pt_set hrb2 _ _ _) ⟨_, rfl, rfl, pt_ext (((HE0.out.trans HE1.out).trans hX).trans hE2) (by have := Hq.out; omega) _ _ _⟩
  case pos =>
   obtain rfl : res = some (downT C.M (mulS C.M (upP bi x y) E nb).1) := by rw [← Hres.out, mulC, if_pos Ho1.out, if_pos (by rw [Hnb.out]; exact hbits), Hnb.out]
   have Hgt := Lib.hid (show ¬ (4096 : Int) < (nb : Int) by omega)
   refine (callsIn_wide (n := 6)).1 ?_
   refine callsIn_of_wp_marks Tryz.func141 rfl trivial ?_ rfl
   simp only [Tryz.ntmps141, List.size_toArray, List.length_cons, List.length_nil, Nat.reduceAdd, Nat.reduceSub, Array.replicate_succ, Array.replicate_zero, List.push_toArray, List.append_toArray, List.nil_append, List.cons_append]
   refine wpIn_wide.2 ?_
   go_upto_region 1 with fail
   rw [← hW0]
   have Hq := Lib.hid hq
   clear hW0 hq
   go_upto_region 2 with (go_at_call 136; refine (of_c HC.out _).mono ?_; rintro e wa ⟨k1, rfl, hk1, hE1⟩)
   obtain ⟨b2, hb2⟩ : ∃ b, wa.heap.size = b := ⟨_, rfl⟩
   have h2 := heap_alloc_new wa (.cells #[.pointer (some ⟨k1, 0, none⟩)] 155)
   have hA := Ext.alloc wa (.cells #[.pointer (some ⟨k1, 0, none⟩)] 155)
   rw [hb2] at h2
   have hz1 : (wa.alloc (.cells #[.pointer (some ⟨k1, 0, none⟩)] 155)).heap.size = b2 + 1 := by rw [World.size_alloc, hb2]
   generalize hW1 : wa.alloc (.cells #[.pointer (some ⟨k1, 0, none⟩)] 155) = W1 at *
   rw [hb2]
   have Hk1 := Lib.hid (hk1.ext hA)
   have HE1 := Lib.hid (hE1.trans hA)
   have Hz1 := Lib.hid hz1
   have HB2 := Lib.hid (show q + 2 ≤ b2 by have := hE1.bsize; have := Hz0.out; omega)
   replace h1 := HE1.out.at_ h1
   replace h3 := HE1.out.at_ h3
   have ck := blk_cell h2 0
   simp only [List.getElem?_toArray, List.getElem?_cons_zero] at ck
   clear hk1 hE1 hA hz1 hb2 hW1
   refine Par.region_txt 9 [0, 0, 3, 7, 15, 31, 63, 127, 255] [] (fun j f X => match j with
    | 0 => f 0 = .pointer (some ⟨k1, 0, none⟩)
    | 1 => f 1 = .agg #[.bool bi, .slice A a.length ca, .slice A' b.length cb]
    | 2 => f 2 = .bool true
    | 3 => f 3 = .bool false
    | 4 => f 4 = .bool false
    | 5 => f 5 = .slice An n.length cn
    | 6 => f 6 = .int .i64 (nb : Int)
    | 7 => f 7 = .bool false
    | 8 => f 8 = .bool false
    | _ => True) (by kernel_rfl) [(17, 0), (18, 1), (19, 2), (20, 3), (21, 4), (22, 5), (23, 6), (24, 7), (25, 8)] (by kernel_rfl) ?_
   refine Par.ld0 1 8 ck ?_
   refine lV0 2 7 h1 infoP ?_
   refine Par.c0 3 6 (fun f => #[f 0, f 1]) (F' := 138) (fun f X hX hR => ?_) ?_
   · have e0 : f 0 = _ := hR.out 0 rfl
     have e1 : f 1 = _ := hR.out 1 rfl
     simp only [e0, e1]
     refine (on_j (Hk1.out.ext hX) HC.out.fine (hp0.out.ext (HE1.out.trans hX))).mono ?_
     rw [Ho1.out]
     rintro e w2 ⟨rfl, hB⟩
     exact ⟨_, rfl, hB, fun _ _ => rfl⟩
   refine Par.v1 4 5 2 ?_
   refine Par.v1 5 4 3 ?_
   refine Par.v1 6 3 4 ?_
   refine Par.c1 7 2 4 (fun f => #[f 5]) (F' := 93) (fun f X hX hR => ?_) ?_
   · have e5 : f 5 = _ := hR.out 5 rfl
     simp only [e5]
     refine (bits_any _ An cn n X (RN.up HN.out (HE1.out.trans hX))).mono ?_
     rw [HE.out, Hnb.out]
     rintro e w2 ⟨rfl, rfl⟩
     exact ⟨_, rfl, (Ext.refl _), fun _ _ => rfl⟩
   refine Par.S 8 1 [(17, 0), (18, 1), (19, 2), (20, 3), (21, 4), (22, 5), (23, 6)] (fun f X hX hR K hK => ?_) ?_
   · have e4 : f 4 = _ := hR.out 4 rfl
     have e6 : f 6 = _ := hR.out 6 rfl
     have hgt : decide ((4096 : Int) < (nb : Int)) = false := decide_eq_false (by have := Hgt.out; omega)
     have hgn : decide (4096 < nb) = false := decide_eq_false (by have := Hgt.out; omega)
     simp only [yA, yB, yC, yD, yE, e4, e6]
     refine ⟨Par.want (by kernel_rfl) ?_⟩
     go_simp
     exact Par.k hK (s := by simp only [yA, yB, yC, yD, yE, e4, e6])
   refine Par.v2 9 0 4 7 ?_
   refine Par.AllOps.fin ⟨fun f X hX hR hal hap => ?_⟩
   have e8 : f 8 = _ := hR 8 (by decide)
   simp only [yA, yB, yD, yE, e8]
   clear hR hal hap e8
   refine Par.Chain.done ?_
   have HX := Lib.hid hX
   rename World => X2
   replace ck := hX.cell ck
   replace h1 := hX.at_ h1
   replace h3 := hX.at_ h3
   clear hX h2
   go_upto_region 4 with fail
   obtain ⟨pt, hpt⟩ : ∃ t, tabP C.M (upP bi x y) = t := ⟨_, rfl⟩
   have ht0 : pt 0 = (1, 1, 0) := by rw [← hpt]; rfl
   have ht1 : pt 1 = upP bi x y := by rw [← hpt]; rfl
   have hts : ∀ k, 1 ≤ k → pt (k + 1) = addT C.M (pt k) (pt 1) := by
    intro k hk
    obtain ⟨k, rfl⟩ : ∃ m, k = m + 1 := ⟨k - 1, by omega⟩
    rw [← hpt]
    rfl
   have Hpt := Lib.hid hpt
   have Ht0 := Lib.hid ht0
   have Ht1 := Lib.hid ht1
   have Hts := Lib.hid hts
   clear hpt ht0 ht1 hts
   refine Par.region_ext (by kernel_rfl) 4 [0, 0, 3, 0, 15] [3] (fun j f X => match j with
    | 0 => f 0 = .pointer (some ⟨k1, 0, none⟩)
    | 1 => f 1 = infV
    | 2 => ∃ v, f 2 = v ∧ JAt C v (1, 1, 0)
    | 3 => ∃ b, f 3 = .pointer (some ⟨b, 0, none⟩) ∧ X2.heap.size ≤ b ∧ X.heap[b]? = some (.cells #[.int .u64 0, .int .u64 0, .int .u64 0, .int .u64 0, .int .u64 0, .int .u64 0, .int .u64 0, .int .u64 0, .int .u64 0, .int .u64 0, .int .u64 0, .int .u64 0, .int .u64 0, .int .u64 0, .int .u64 0, .int .u64 0, .int .u64 0, .int .u64 0] 199 (0, 0))
    | _ => True) (by kernel_rfl) [(27, 0), (28, 1), (29, 2), (9, 3)] (by kernel_rfl) ?_
   refine Par.ld0 1 3 ck ?_
   refine Par.c0 2 2 (fun _ => #[]) (F' := 137) (fun f X hX hR => ?_) ?_
   · refine (none_any X).mono ?_
     rintro e w2 ⟨rfl, hB⟩
     exact ⟨infV, rfl, hB, fun _ _ => rfl⟩
   refine Par.c0 3 1 (fun f => #[f 0, f 1]) (F' := 179) (fun f X hX hR => ?_) ?_
   · have e0 : f 0 = _ := hR.out 0 rfl
     have e1 : f 1 = _ := hR.out 1 rfl
     simp only [e0, e1]
     refine (up_j (Hk1.out.ext (HX.out.trans hX)) (APt.inf_ X) rfl).mono ?_
     rintro e w2 ⟨o, rfl, hj, hB⟩
     exact ⟨_, rfl, hB, fun _ _ => ⟨_, rfl, hj⟩⟩
   refine Par.al 4 0 ?_
   refine Par.AllOps.fin ⟨fun f X hX hR hal hap => ?_⟩
   obtain ⟨v2, (e2 : f 2 = _), j2⟩ := hR 2 (by decide)
   obtain ⟨bo3, (e3 : f 3 = _), lo3, ho3⟩ := hR 3 (by decide)
   simp only [yA, yB, yD, yE, e2, e3]
   clear hR hal hap e2 e3
   obtain ⟨ox, oy, oz, ev, hf⟩ := j2
   subst ev
   refine Par.Chain.next (fun K hK => ⟨Par.want (by kernel_rfl) (wp_storeJ (x := ox) (y := oy) (z := oz) (.tmp 9) (.tmp 29) rfl rfl rfl rfl ho3 rfl hf.x.elt.six hf.y.elt.six hf.z.elt.six (fun Y hY1 hY2 hY3 => hK.out _ _ ?_))⟩)
   refine Par.Chain.done ?_
   have hXY := hY2.ext hX lo3
   have hbo : q + 2 ≤ bo3 := by have := HX.out.bsize; have := HE1.out.bsize; have := Hz0.out; omega
   have hJo : JBlk C Y bo3 (pt 0) := ⟨ox, oy, oz, hY1, by rw [Ht0.out]; exact hf⟩
   replace ck := hXY.cell ck
   replace h1 := hXY.at_ h1
   replace h3 := hXY.at_ h3
   have HXY := Lib.hid (HX.out.trans hXY)
   have lo := Nat.le_trans HX.out.bsize lo3
   have zY : bo3 < Y.heap.size := hY1.lt'
   clear hX hY1 hY2 hY3 ho3 lo3 hf hXY
   rename World => V4
   go_upto_region 5 with fail
   refine Par.region_ext (by kernel_rfl) 6 [0, 0, 0, 6, 15, 0, 63] [5] (fun j f X => match j with
    | 0 => ∃ v, f 0 = v ∧ JAt C v (pt 0)
    | 1 => f 1 = .pointer (some ⟨k1, 0, none⟩)
    | 2 => f 2 = .agg #[.bool bi, .slice A a.length ca, .slice A' b.length cb]
    | 3 => ∃ v, f 3 = v ∧ JAt C v (pt 1)
    | 4 => ∃ cs : Array Value, f 4 = .agg cs ∧ cs.size = 288 ∧ cs.all (·.oneCell') = true ∧ (∀ (W : World) (b : Nat), W.heap[b]? = some (.cells cs 201 (0, 0)) → TabAt C W b pt 2)
    | 5 => ∃ b, f 5 = .pointer (some ⟨b, 0, none⟩) ∧ V4.heap.size ≤ b ∧ X.heap[b]? = some (.cells z85 201 (0, 0))
    | _ => True) (by kernel_rfl) [(30, 0), (31, 1), (32, 2), (33, 3), (34, 4), (10, 5)] (by kernel_rfl) ?_
   refine Par.S 1 5 [(31, 1), (32, 2), (33, 3), (10, 5)] (fun f X hX hR K hK => ?_) ?_
   · obtain ⟨jx, jy, jz, hjb, hjf⟩ := hJo.ext hX
     simp only [yA, yB, yC, yD, yE]
     refine ⟨wp_loadV (v := JV jx jy jz) (t := 199) 199 (.tmp 9) rfl rfl hjb Tryz.underlying199 rfl (by rw [hjf.sz]; exact infoJ) rfl ?_⟩
     exact hK.out _ (JV jx jy jz) _ (by simp only [yA, yB, yC, yD, yE]) (Ext.refl _) trivial (fun _ _ => ⟨_, rfl, ⟨jx, jy, jz, rfl, hjf⟩⟩)
   refine Par.ld0 2 4 ck ?_
   refine lV0 3 3 h1 infoP ?_
   refine Par.c0 4 2 (fun f => #[f 1, f 2]) (F' := 179) (fun f X hX hR => ?_) ?_
   · have e1 : f 1 = _ := hR.out 1 rfl
     have e2 : f 2 = _ := hR.out 2 rfl
     simp only [e1, e2]
     refine (up_j (Hk1.out.ext (HXY.out.trans hX)) (hp0.out.ext ((HE1.out.trans HXY.out).trans hX)) Ho1.out).mono ?_
     rintro e w2 ⟨o, rfl, hj, hB⟩
     exact ⟨o, rfl, hB, fun _ _ => ⟨_, rfl, by rw [Ht1.out]; exact hj⟩⟩
   refine Par.S 5 1 [(30, 0), (31, 1), (32, 2), (33, 3), (10, 5)] (fun f X hX hR K hK => ?_) ?_
   · obtain ⟨v0, (e0 : f 0 = _), j0⟩ := hR.out 0 rfl
     obtain ⟨v3, (e3 : f 3 = _), j3⟩ := hR.out 3 rfl
     simp only [yA, yB, yC, yD, yE, e0, e3]
     refine ⟨wp_build85 (.tmp 30) (.tmp 33) rfl rfl rfl j0 j3 (fun cs h1 h2 h3 => ?_)⟩
     exact hK.out _ (.agg cs) _ (by simp only [yA, yB, yC, yD, yE, e0, e3]) (Ext.refl _) trivial (fun _ _ => ⟨cs, rfl, h1, h2, fun W b hb => h3 W b hb pt rfl rfl⟩)
   refine Par.al 6 0 ?_
   refine Par.AllOps.fin ⟨fun f X hX hR hal hap => ?_⟩
   obtain ⟨v0, (e0 : f 0 = _), j0⟩ := hR 0 (by decide)
   obtain ⟨v3, (e3 : f 3 = _), j3⟩ := hR 3 (by decide)
   obtain ⟨cs, (e4 : f 4 = _), hs4, ho4, ht4⟩ := hR 4 (by decide)
   obtain ⟨be5, (e5 : f 5 = _), le5, he5⟩ := hR 5 (by decide)
   simp only [yA, yB, yD, yE, e0, e3, e4, e5]
   clear hR hal hap e0 e3 e4 e5
   refine Par.Chain.next (fun K hK => ⟨Par.want (by kernel_rfl) (wp_storeV (cs' := cs) (t := 201) 201 (.tmp 10) (.tmp 34) rfl rfl rfl rfl he5 (by rw [hs4]; exact info85s) (by rw [hs4, z85_size]) ho4 (fun Y hY1 hY2 hY3 => hK.out _ _ ?_))⟩)
   refine Par.Chain.done ?_
   have hT2 : TabAt C Y be5 pt 2 := ht4 Y be5 hY1
   have hXZ := hY2.ext hX le5
   have zE : be5 < Y.heap.size := blk_lt hY1
   have zoe : bo3 < be5 := by omega
   have HXZ := Lib.hid (HXY.out.trans hXZ)
   replace ck := hXZ.cell ck
   replace hJo := hJo.ext hXZ
   replace h3 := hXZ.at_ h3
   clear hX hY1 hY2 hY3 he5 le5 hXZ j0 j3 ht4 hs4 ho4 h1 zY HXY
   rename World => V5
   have hb2o : b2 < bo3 := by have := Hz1.out; omega
   go_wp2
   go_loopw [11] (fun iv wr => ∃ k : Nat, iv = .int .i64 (k : Int) ∧ 2 ≤ k ∧ k ≤ 16 ∧ TabAt C wr be5 pt k ∧ Below be5 V5 wr) (fun iv _ => (16 - intOf iv).toNat)
   case atStart => exact ⟨2, by go_num, by omega, by omega, hT2, Below.refl _ _⟩
   case round =>
    obtain ⟨k, rfl, hk2, hk16, hT, hB⟩ := hrel
    by_cases hlt : k < 16
    · obtain ⟨m, hm⟩ : ∃ m, k = m + 1 := ⟨k - 1, by omega⟩
      have e1 : (k : Int) - 1 = (m : Int) := by omega
      have k1' : (k : Int) < 16 := by omega
      have k2' : (m : Int) < 16 := by omega
      have ckr := (hB.cell (p := ⟨b2, 0, none⟩) (by show b2 < be5; omega)).trans ck
      have HEr := Lib.hid (show Ext W1 wr from Below.trans HXZ.out (Below.mono hB (by have := Hz1.out; omega)))
      have hsz := hT.lt
      have Hpk := Lib.hid (show pt k = addT C.M (pt m) (pt 1) by rw [hm]; exact Hts.out m (by omega))
      clear hm
      go_upto_region 9 with fail
      refine Par.region_ext (by kernel_rfl) 10 [0, 0, 0, 4, 12, 28, 0, 64, 254, 511, 1023] [] (fun j f X => match j with
       | 0 => f 0 = .int .i64 (k : Int)
       | 1 => f 1 = .pointer (some ⟨k1, 0, none⟩)
       | 2 => f 2 = .int .i64 (k : Int)
       | 3 => f 3 = .int .i64 (m : Int)
       | 4 => f 4 = .pointer (some ⟨be5, m * 18, none⟩)
       | 5 => ∃ v, f 5 = v ∧ JAt C v (pt m)
       | 6 => f 6 = .pointer (some ⟨be5, 18, none⟩)
       | 7 => ∃ v, f 7 = v ∧ JAt C v (pt 1)
       | 8 => ∃ v, f 8 = v ∧ JAt C v (pt k)
       | 9 => f 9 = .pointer (some ⟨be5, k * 18, none⟩)
       | _ => True) (by kernel_rfl) [(39, 0), (40, 1), (41, 2), (42, 3), (43, 4), (44, 5), (45, 6), (46, 7), (47, 8), (48, 9)] (by kernel_rfl) ?_
      refine Par.v0 1 9 ?_
      refine Par.ld0 2 8 ckr ?_
      refine Par.v0 3 7 ?_
      refine Par.S 4 6 [(39, 0), (40, 1), (41, 2), (45, 6), (46, 7)] (fun f X hX hR K hK => ?_) ?_
      · have e2 : f 2 = _ := hR.out 2 rfl
        have ew : IntKind.i64.wrap (m : Int) = (m : Int) := IntWalk.i64_in _ (by omega)
        simp only [yA, yB, yC, yD, yE, e2]
        refine ⟨?_⟩
        go_simp
        exact Par.k hK (s := by simp only [yA, yB, yC, yD, yE, e2])
      refine Par.S 5 5 [(39, 0), (40, 1), (41, 2), (42, 3), (45, 6), (46, 7)] (fun f X hX hR K hK => ?_) ?_
      · have e3 : f 3 = _ := hR.out 3 rfl
        simp only [yA, yB, yC, yD, yE, e3]
        refine ⟨?_⟩
        go_simp
        exact Par.k hK (s := by simp only [yA, yB, yC, yD, yE, e3])
      refine Par.S 6 4 [(39, 0), (40, 1), (41, 2), (42, 3), (43, 4), (45, 6), (46, 7)] (fun f X hX hR K hK => ?_) ?_
      · have e4 : f 4 = _ := hR.out 4 rfl
        simp only [yA, yB, yC, yD, yE, e4]
        refine ⟨wp_loadT (.tmp 43) rfl (hT.ext hX) (i := m) (by omega) (Nat.mul_comm _ _) rfl (fun v hv => ?_)⟩
        exact hK.out _ v _ (by simp only [yA, yB, yC, yD, yE, e4]) (Ext.refl _) trivial (fun _ _ => ⟨_, rfl, hv⟩)
      refine Par.v0 7 3 ?_
      refine Par.S 8 2 [(39, 0), (40, 1), (41, 2), (42, 3), (43, 4), (44, 5), (45, 6)] (fun f X hX hR K hK => ?_) ?_
      · have e6 : f 6 = _ := hR.out 6 rfl
        simp only [yA, yB, yC, yD, yE, e6]
        refine ⟨wp_loadT (.tmp 45) rfl (hT.ext hX) (i := 1) (by omega) rfl rfl (fun v hv => ?_)⟩
        exact hK.out _ v _ (by simp only [yA, yB, yC, yD, yE, e6]) (Ext.refl _) trivial (fun _ _ => ⟨_, rfl, hv⟩)
      refine Par.c0 9 1 (fun f => #[f 1, f 5, f 7]) (F' := 180) (fun f X hX hR => ?_) ?_
      · have e1 : f 1 = _ := hR.out 1 rfl
        obtain ⟨v5, (e5 : f 5 = _), j5⟩ := hR.out 5 rfl
        obtain ⟨v7, (e7 : f 7 = _), j7⟩ := hR.out 7 rfl
        simp only [e1, e5, e7]
        refine (add_j (Hk1.out.ext (HEr.out.trans hX)) j5 j7).mono ?_
        rintro e w2 ⟨o, rfl, hj, hB⟩
        exact ⟨o, rfl, hB, fun _ _ => ⟨_, rfl, by rw [Hpk.out]; exact hj⟩⟩
      refine Par.S 10 0 [(39, 0), (40, 1), (41, 2), (42, 3), (43, 4), (44, 5), (45, 6), (46, 7), (47, 8)] (fun f X hX hR K hK => ?_) ?_
      · have e0 : f 0 = _ := hR.out 0 rfl
        simp only [yA, yB, yC, yD, yE, e0]
        refine ⟨?_⟩
        go_simp
        exact Par.k hK (s := by simp only [yA, yB, yC, yD, yE, e0])
      refine Par.AllOps.fin ⟨fun f X hX hR hal hap => ?_⟩
      obtain ⟨v5, (e5 : f 5 = _), j5⟩ := hR 5 (by decide)
      obtain ⟨v7, (e7 : f 7 = _), j7⟩ := hR 7 (by decide)
      obtain ⟨v8, (e8 : f 8 = _), j8⟩ := hR 8 (by decide)
      have e9 : f 9 = _ := hR 9 (by decide)
      simp only [yA, yB, yD, yE, e5, e7, e8, e9]
      clear hR hal hap e5 e7 e8 e9
      refine Par.Chain.next (fun K hK => ⟨wp_storeT (.tmp 48) (.tmp 47) rfl rfl (hT.ext hX) hlt j8 (Nat.mul_comm _ _) rfl rfl (fun Y hY1 hY2 hY3 => hK.out _ _ ?_)⟩)
      refine Par.Chain.done ?_
      have hBY : Below be5 V5 Y := (hB.trans (Below.mono hX (by omega))).trans (hY2.below (Nat.le_refl _) (by have := hX.bsize; omega))
      have HBY := Lib.hid hBY
      have HTY := Lib.hid hY1
      have hkw : IntKind.i64.wrap ((k : Int) + 1) = (k : Int) + 1 := IntWalk.i64_in _ (by omega)
      clear hX hY1 hY2 hY3 j5 j7 j8 hBY hT hB ckr
      go_wp2
      go_roundw
      case rel => exact ⟨k + 1, by go_num, by omega, by omega, HTY.out, HBY.out⟩
      case measure => simp [intOf]; omega
    · have hkk : k = 16 := by omega
      rw [show (k : Int) = 16 by omega]
      rw [hkk] at hT
      have k1' : ¬ (16 : Int) < 16 := by omega
      clear hlt hk2 hk16 hkk
      have HT := Lib.hid hT
      have HBr := Lib.hid hB
      have hJr : JBlk C wr bo3 (pt 0) := hJo.below hB zoe
      have h3r := (hB.block (q + 1) (by omega)).trans h3
      have ckr := (hB.cell (p := ⟨b2, 0, none⟩) (by show b2 < be5; omega)).trans ck
      clear hT hB hJo h3 ck
      have HEr := Lib.hid (show Ext W1 wr from Below.trans HXZ.out (Below.mono HBr.out (by have := Hz1.out; omega)))
      obtain ⟨bd, hbd⟩ : ∃ b, wr.heap.size = b := ⟨_, rfl⟩
      have d0 := heap_alloc_new wr (.cells #[.int .u64 0] 96)
      have hA6 := Ext.alloc wr (.cells #[.int .u64 0] 96)
      rw [hbd] at d0
      have hz6 : (wr.alloc (.cells #[.int .u64 0] 96)).heap.size = bd + 1 := by rw [World.size_alloc, hbd]
      have zbe : be5 < bd := by have := HT.out.lt; omega
      go_upto_region 11 with fail
      generalize hW6 : wr.alloc (.cells #[.int .u64 0] 96) = W6 at *
      replace ckr := hA6.cell ckr
      replace h3r := hA6.at_ h3r
      replace hJr := hJr.ext hA6
      have HT6 := Lib.hid (HT.out.ext hA6)
      have HE6 := Lib.hid (HEr.out.trans hA6)
      have heach := each_any _ An cn n W6 (RN.up HN.out (HE1.out.trans HE6.out)) (fun b hb => hb)
      rw [HE.out, hz6] at heach
      have Heach := Lib.hid heach
      have hW6z := Lib.hid hz6
      clear heach hA6 hbd hz6 hW6 HT HBr HEr
      go_wp2_with (go_at_call 181; refine Heach.out.mono ?_; rintro e' w3 ⟨Ae', ce', rfl, be, hOe, hB3⟩)
      obtain ⟨t, ht⟩ : ∃ t, bd + 1 = t := ⟨_, rfl⟩
      rw [ht] at be hOe hB3
      rw [ht]
      have hbdt : bd < t := by omega
      have hbot : bo3 < t := by omega
      have zn : t < w3.heap.size := blk_lt be
      have hbe := blk_cell be 0
      simp only [List.getElem?_toArray, List.getElem?_cons_zero] at hbe
      have hseq := each_seq t t w3.heap.size (In t w3.heap.size) Ae' ce' (digs 18446744073709551616 E) w3 (fun b hb => hb) (Nat.le_refl _) zn (Nat.le_refl _) hbe hOe.rn
      rw [val_digs (by omega), Hnb.out] at hseq
      have Hseq := Lib.hid hseq
      have hE3 : Ext W6 w3 := by rw [← ht, ← hW6z.out] at hB3; exact hB3
      have HE3 := Lib.hid (HE6.out.trans hE3)
      have c3 := hE3.cell ckr
      have hJ3 := hJr.ext hE3
      have hT3 := HT6.out.ext hE3
      have hd3 := hE3.at_ d0
      have h33 := hE3.at_ h3r
      clear hseq Heach hbe be hOe hB3 hE3 ckr hJr d0 h3r HT6 ht
      have hI0 : JBlk C w3 bo3 (mulS C.M (upP bi x y) E 0).1 := by rw [show (mulS C.M (upP bi x y) E 0).1 = pt 0 by rw [Ht0.out]; rfl]; exact hJ3
      have hInv : OwnFrom w3.heap.size (fun (k : Nat) X => JBlk C X bo3 (mulS C.M (upP bi x y) E k).1 ∧ X.heap[bd]? = some (.cells #[.int .u64 ((mulS C.M (upP bi x y) E k).2 : Int)] 96 (0, 0)) ∧ TabAt C X be5 pt 16 ∧ Below bo3 w3 X) := by
       rintro k X X' row ⟨⟨jx, jy, jz, g1, g2⟩, g3, g4, g5⟩ hg' hr
       have hr' := fun r e => (hr r e).2
       obtain ⟨cs', g6, g7⟩ := g4.blk
       exact ⟨⟨jx, jy, jz, (grownBy_keeps_cells hg' hr' g1 rfl).trans g1, g2⟩, (grownBy_keeps_cells hg' hr' g3 rfl).trans g3, g4.same (grownBy_keeps_cells hg' hr' g6 rfl), ownFrom_below (by omega) (by omega) k X X' row g5 hg' hr⟩
      refine (wpIn_wide (n := 6)).1 ?_
      refine' wpIn_iter (by omega) (gf := 215) (lb := #[.pointer (some ⟨t, 0, none⟩)]) rfl (enters_of Tryz.func215 (by kernel_rfl) rfl)
       Hseq.out (fun h k => Stay.trans h k) (fun X l o o' hl ho _ _ => ⟨by simp, fun i _ hi => World.putObj_heap_other (by omega)⟩) tplain_keeps (Below.refl _ _) (fun _ => rfl)
       (fun k X => JBlk C X bo3 (mulS C.M (upP bi x y) E k).1 ∧ X.heap[bd]? = some (.cells #[.int .u64 ((mulS C.M (upP bi x y) E k).2 : Int)] 96 (0, 0)) ∧ TabAt C X be5 pt 16 ∧ Below bo3 w3 X) (fun k X => JBlk C X bo3 (mulS C.M (upP bi x y) E k).1 ∧ X.heap[bd]? = some (.cells #[.int .u64 ((mulS C.M (upP bi x y) E k).2 : Int)] 96 (0, 0)) ∧ TabAt C X be5 pt 16 ∧ Below bo3 w3 X) (fun _ _ _ => False)
       hInv hInv (fun _ _ _ _ _ h => h.elim) (fun _ _ _ _ => trivial) (fun B k A C' _ _ hi ht => ?hIT) (fun h => by cases h) ⟨hI0, hd3, hT3, Below.refl _ _⟩ _ ?assign ?body ?done ?stop
      case hIT => exact ownFrom_plain (I := fun k X => JBlk C X bo3 (mulS C.M (upP bi x y) E k).1 ∧ X.heap[bd]? = some (.cells #[.int .u64 ((mulS C.M (upP bi x y) E k).2 : Int)] 96 (0, 0)) ∧ TabAt C X be5 pt 16 ∧ Below bo3 w3 X) (B := w3.heap.size) hInv hi ht
      case assign =>
       intro l k X K hK
       gi_wp2
       exact hK
      case body =>
       rintro l k V ⟨⟨jx, jy, jz, hjb, hjf⟩, hdV, hTV, h5⟩ hlt _
       have zV := h5.size
       have hd8 := dig_lt8 (M := C.M) (p := upP bi x y) (E := E) (k := k) (by rw [Hnb.out]; exact hlt)
       have hstep : mulS C.M (upP bi x y) E (k + 1) = if (bitAt E k).1 % 4 = 0 then (addT C.M (dblT C.M (mulS C.M (upP bi x y) E k).1) (tabP C.M (upP bi x y) (2 * (mulS C.M (upP bi x y) E k).2 + (bitAt E k).2)), 0) else (dblT C.M (mulS C.M (upP bi x y) E k).1, 2 * (mulS C.M (upP bi x y) E k).2 + (bitAt E k).2) := rfl
       rw [Hpt.out] at hstep
       have hb2' : (bitAt E k).2 < 2 := Nat.mod_lt _ (by omega)
       have hi1 : (bitAt E k).1 ≤ 4096 := by show nbits E - 1 - k ≤ 4096; rw [Hnb.out]; omega
       obtain ⟨so, hso⟩ : ∃ s, (mulS C.M (upP bi x y) E k).1 = s := ⟨_, rfl⟩
       obtain ⟨d, hd⟩ : ∃ s, (mulS C.M (upP bi x y) E k).2 = s := ⟨_, rfl⟩
       obtain ⟨bt, hbt⟩ : ∃ s, (bitAt E k).2 = s := ⟨_, rfl⟩
       obtain ⟨ii, hii⟩ : ∃ s, (bitAt E k).1 = s := ⟨_, rfl⟩
       obtain ⟨d2, hd2⟩ : ∃ s, 2 * d + bt = s := ⟨_, rfl⟩
       rw [hso, hd, hbt, hii, hd2] at hstep
       rw [hso] at hjf
       rw [hd] at hdV hd8
       rw [hbt] at hb2'
       rw [hii] at hi1
       rw [hbt, hii]
       have Hstep := Lib.hid hstep
       have Hd2 := Lib.hid hd2
       have HEV := Lib.hid (show Ext W1 V from Below.trans HE3.out (Below.mono h5 lo))
       have hd16 : d2 < 16 := by omega
       have hM0 : MK w3.heap.size t bo3 be5 w3 V V := ⟨Keeps.refl _ _ _ _, Stay.refl _ _ _, h5, rfl, zV⟩
       have HM0 := Lib.hid hM0
       have Hjf := Lib.hid hjf
       have HTV := Lib.hid hTV
       have cV : V.cell? ⟨b2, 0, none⟩ = some (.pointer (some ⟨k1, 0, none⟩)) := (h5.cell (p := ⟨b2, 0, none⟩) (by show b2 < bo3; omega)).trans c3
       clear hstep hd2 hso hd hbt hii hM0 hjf hTV h5
       gi_upto_region 14 with fail
       refine Par.region_txt_in 3 [0, 0, 3, 7] [] (fun j f X => match j with
        | 0 => f 0 = .pointer (some ⟨k1, 0, none⟩)
        | 1 => f 1 = JV jx jy jz
        | 2 => ∃ v, f 2 = v ∧ JAt C v (dblT C.M so)
        | _ => True) (by kernel_rfl) [(53, 0), (54, 1), (55, 2)] (by kernel_rfl) (by kernel_rfl) ?_
       refine Par.S 1 2 [(54, 1)] (fun f X hX hR K hK => ?_) ?_
       · have x0 := hX.cell cV
         simp only [yA, yB, yC, yD, yE]
         refine ⟨?_⟩
         go_simp
         exact Par.k hK (s := by simp only [yA, yB, yC, yD, yE])
       refine Par.S 2 1 [(53, 0)] (fun f X hX hR K hK => ?_) ?_
       · simp only [yA, yB, yC, yD, yE]
         refine ⟨wp_loadV (v := JV jx jy jz) (t := 199) 199 (.tmp 9) rfl rfl (hX.at_ hjb) Tryz.underlying199 rfl (by rw [Hjf.out.sz]; exact infoJ) rfl ?_⟩
         exact hK.out _ (JV jx jy jz) _ (by simp only [yA, yB, yC, yD, yE]) (Ext.refl _) trivial (fun _ _ => rfl)
       refine Par.S 3 0 [(53, 0), (54, 1)] (fun f X hX hR K hK => ?_) ?_
       · have e0 : f 0 = _ := hR.out 0 rfl
         have e1 : f 1 = _ := hR.out 1 rfl
         simp only [yA, yB, yC, yD, yE, e0, e1]
         refine ⟨?_⟩
         go_simp
         refine (double_j (Hk1.out.ext (HEV.out.trans hX)) ⟨jx, jy, jz, rfl, Hjf.out⟩).mono ?_
         rintro e w2 ⟨o, rfl, hj, hB⟩
         exact hK.out _ o _ (by simp only [yA, yB, yC, yD, yE, e0, e1]) hB trivial (fun _ _ => ⟨_, rfl, hj⟩)
       refine Par.AllOps.fin ⟨fun f X hX hR hal hap => ?_⟩
       have e0 : f 0 = _ := hR 0 (by decide)
       have e1 : f 1 = _ := hR 1 (by decide)
       obtain ⟨v2, (e2 : f 2 = _), j2⟩ := hR 2 (by decide)
       simp only [yA, yB, yD, yE, e0, e1, e2]
       clear hR hal hap e0 e1 e2
       obtain ⟨ox, oy, oz, ev, hf⟩ := j2
       subst ev
       refine Par.Chain.next (fun K hK => ⟨Par.want (by kernel_rfl) (wp_storeJ (x := ox) (y := oy) (z := oz) (.tmp 9) (.tmp 55) rfl rfl rfl rfl (hX.at_ hjb) Hjf.out.sz hf.x.elt.six hf.y.elt.six hf.z.elt.six (fun Y hY1 hY2 hY3 => hK.out _ _ ?_))⟩)
       refine Par.Chain.done ?_
       refine ⟨nofun, ?_⟩
       have hM1 := (HM0.out.ext hX (by omega) (by omega)).just hY2 (hX.at_ hjb) (by omega) (Nat.le_refl _) (by omega) (by omega) (by omega)
       have hdY := hY2.at_ (by omega) (hX.at_ hdV)
       have HM1 := Lib.hid hM1
       have HJ1 := Lib.hid (show JBlk C Y bo3 (dblT C.M so) from ⟨ox, oy, oz, hY1, hf⟩)
       have HdY := Lib.hid hdY
       have cd := blk_cell hdY 0
       have fd := blk_free hdY 0
       simp only [List.getElem?_toArray, List.getElem?_cons_zero] at cd
       have hw1 : IntKind.u64.wrap (2 * (d : Int)) = 2 * (d : Int) := IntWalk.u64_in _ (by omega)
       have hw2 : IntKind.u64.wrap (2 * (d : Int) + (bt : Int)) = (d2 : Int) := by rw [IntWalk.u64_in _ (by omega)]; have := Hd2.out; omega
       clear hM1 hdY hX hY1 hY2 hY3 hf hjb hdV cV
       gi_upto_region 16 with fail
       obtain ⟨hdV2, hj2⟩ := one_set HdY.out (.int .u64 (d2 : Int))
       have hM2 := HM1.out.just hj2 HdY.out (by omega) (by omega) (by omega) (by omega) (by omega)
       have hJ2 := HJ1.out.just hj2 (by omega)
       generalize hV2 : Y.setCell ⟨bd, 0, none⟩ (.int .u64 (d2 : Int)) = V2 at *
       have HM2 := Lib.hid hM2
       have HJ2 := Lib.hid hJ2
       have HdV2 := Lib.hid hdV2
       clear hM2 hJ2 hj2 hV2 cd fd hw1 hw2
       by_cases hi4 : ii % 4 = 0
       · have hst : mulS C.M (upP bi x y) E (k + 1) = (addT C.M (dblT C.M so) (pt d2), 0) := by rw [Hstep.out, if_pos hi4]
         have Hst := Lib.hid hst
         have hr4 : (ii : Int) % 4 = 0 := by omega
         have hr5 : (ii : Int).tmod 4 = 0 := by rw [IntWalk.rem_in _ _ (by omega)]; exact hr4
         have hTV2 := Lib.hid (HTV.out.same HM2.out.tab)
         have cV2 : V2.cell? ⟨b2, 0, none⟩ = some (.pointer (some ⟨k1, 0, none⟩)) := (HM2.out.below.cell (p := ⟨b2, 0, none⟩) (by show b2 < bo3; omega)).trans c3
         have cd2 := blk_cell hdV2 0
         simp only [List.getElem?_toArray, List.getElem?_cons_zero] at cd2
         have HE2 := Lib.hid (show Ext W1 V2 from Below.trans HE3.out (Below.mono HM2.out.below lo))
         obtain ⟨mx, my, mz, hmb, hmf⟩ := HJ2.out
         have Hmf := Lib.hid hmf
         clear hst hmf
         gi_upto_region 17 with fail
         clear hr4 hr5
         refine Par.region_ext_in (by kernel_rfl) 6 [0, 0, 0, 4, 12, 31, 63] [] (fun j f X => match j with
          | 0 => f 0 = .pointer (some ⟨k1, 0, none⟩)
          | 1 => f 1 = JV mx my mz
          | 2 => f 2 = .int .u64 (d2 : Int)
          | 3 => f 3 = .pointer (some ⟨be5, d2 * 18, none⟩)
          | 4 => ∃ v, f 4 = v ∧ JAt C v (pt d2)
          | 5 => ∃ v, f 5 = v ∧ JAt C v (addT C.M (dblT C.M so) (pt d2))
          | _ => True) (by kernel_rfl) [(63, 0), (64, 1), (65, 2), (66, 3), (67, 4), (68, 5)] (by kernel_rfl) (by kernel_rfl) ?_
         refine Par.S 1 5 [(64, 1), (65, 2), (66, 3), (67, 4)] (fun f X hX hR K hK => ?_) ?_
         · have x0 := hX.cell cV2
           simp only [yA, yB, yC, yD, yE]
           refine ⟨?_⟩
           go_simp
           exact Par.k hK (s := by simp only [yA, yB, yC, yD, yE])
         refine Par.S 2 4 [(63, 0), (65, 2), (66, 3), (67, 4)] (fun f X hX hR K hK => ?_) ?_
         · simp only [yA, yB, yC, yD, yE]
           refine ⟨wp_loadV (v := JV mx my mz) (t := 199) 199 (.tmp 9) rfl rfl (hX.at_ hmb) Tryz.underlying199 rfl (by rw [Hmf.out.sz]; exact infoJ) rfl ?_⟩
           exact hK.out _ (JV mx my mz) _ (by simp only [yA, yB, yC, yD, yE]) (Ext.refl _) trivial (fun _ _ => rfl)
         refine Par.S 3 3 [(63, 0), (64, 1)] (fun f X hX hR K hK => ?_) ?_
         · have x0 := hX.cell cd2
           simp only [yA, yB, yC, yD, yE]
           refine ⟨?_⟩
           go_simp
           exact Par.k hK (s := by simp only [yA, yB, yC, yD, yE])
         refine Par.S 4 2 [(63, 0), (64, 1), (65, 2)] (fun f X hX hR K hK => ?_) ?_
         · have e2 : f 2 = _ := hR.out 2 rfl
           have hd17 : (d2 : Int) < 16 := by omega
           simp only [yA, yB, yC, yD, yE, e2]
           refine ⟨?_⟩
           go_simp
           exact Par.k hK (s := by simp only [yA, yB, yC, yD, yE, e2])
         refine Par.S 5 1 [(63, 0), (64, 1), (65, 2), (66, 3)] (fun f X hX hR K hK => ?_) ?_
         · have e3 : f 3 = _ := hR.out 3 rfl
           simp only [yA, yB, yC, yD, yE, e3]
           refine ⟨wp_loadT (.tmp 66) rfl (hTV2.out.ext hX) (i := d2) hd16 (Nat.mul_comm _ _) rfl (fun v hv => ?_)⟩
           exact hK.out _ v _ (by simp only [yA, yB, yC, yD, yE, e3]) (Ext.refl _) trivial (fun _ _ => ⟨_, rfl, hv⟩)
         refine Par.S 6 0 [(63, 0), (64, 1), (65, 2), (66, 3), (67, 4)] (fun f X hX hR K hK => ?_) ?_
         · have e0 : f 0 = _ := hR.out 0 rfl
           have e1 : f 1 = _ := hR.out 1 rfl
           obtain ⟨v4, (e4 : f 4 = _), j4⟩ := hR.out 4 rfl
           simp only [yA, yB, yC, yD, yE, e0, e1, e4]
           refine ⟨?_⟩
           go_simp
           refine (add_j (Hk1.out.ext (HE2.out.trans hX)) ⟨mx, my, mz, rfl, Hmf.out⟩ j4).mono ?_
           rintro e w2 ⟨o, rfl, hj, hB⟩
           exact hK.out _ o _ (by simp only [yA, yB, yC, yD, yE, e0, e1, e4]) hB trivial (fun _ _ => ⟨_, rfl, hj⟩)
         refine Par.AllOps.fin ⟨fun f X hX hR hal hap => ?_⟩
         have e0 : f 0 = _ := hR 0 (by decide)
         have e1 : f 1 = _ := hR 1 (by decide)
         have e2 : f 2 = _ := hR 2 (by decide)
         have e3 : f 3 = _ := hR 3 (by decide)
         obtain ⟨v4, (e4 : f 4 = _), j4⟩ := hR 4 (by decide)
         obtain ⟨v5, (e5 : f 5 = _), j5⟩ := hR 5 (by decide)
         simp only [yA, yB, yD, yE, e0, e1, e2, e3, e4, e5]
         clear hR hal hap e0 e1 e2 e3 e4 e5
         obtain ⟨ux, uy, uz, ev, hf⟩ := j5
         subst ev
         refine Par.Chain.next (fun K hK => ⟨Par.want (by kernel_rfl) (wp_storeJ (x := ux) (y := uy) (z := uz) (.tmp 9) (.tmp 68) rfl rfl rfl rfl (hX.at_ hmb) Hmf.out.sz hf.x.elt.six hf.y.elt.six hf.z.elt.six (fun Y hY1 hY2 hY3 => hK.out _ _ ?_))⟩)
         refine Par.Chain.done ?_
         refine ⟨nofun, ?_⟩
         have hM3 := (HM2.out.ext hX (by omega) (by omega)).just hY2 (hX.at_ hmb) (by omega) (Nat.le_refl _) (by omega) (by omega) (by omega)
         have hd3' := hY2.at_ (by omega) (hX.at_ hdV2)
         have hJ3' : JBlk C Y bo3 (addT C.M (dblT C.M so) (pt d2)) := ⟨ux, uy, uz, hY1, hf⟩
         obtain ⟨hd4, hj4⟩ := one_set hd3' (.int .u64 0)
         have hM4 := hM3.just hj4 hd3' (by omega) (by omega) (by omega) (by omega) (by omega)
         have hJ4 := hJ3'.just hj4 (by omega)
         have cd := blk_cell hd3' 0
         have fd := blk_free hd3' 0
         simp only [List.getElem?_toArray, List.getElem?_cons_zero] at cd
         have HM4 := Lib.hid hM4
         have HJ4 := Lib.hid hJ4
         have Hd4 := Lib.hid hd4
         clear hM3 hM4 hJ3' hJ4 hd3' hd4 hj4 hX hY1 hY2 hY3 hf hmb cV2 cd2 hdV2
         gi_wp2
         exact ⟨HM4.out.keeps, HM4.out.stay, by rw [Hst.out]; exact HJ4.out, by rw [Hst.out]; exact Hd4.out, HTV.out.same HM4.out.tab, HM4.out.below⟩
       · have hst : mulS C.M (upP bi x y) E (k + 1) = (dblT C.M so, d2) := by rw [Hstep.out, if_neg hi4]
         have Hst := Lib.hid hst
         have hr4 : ¬ (ii : Int) % 4 = 0 := by omega
         have hr5 : ¬ (ii : Int).tmod 4 = 0 := by rw [IntWalk.rem_in _ _ (by omega)]; exact hr4
         clear hst hdV2
         gi_wp2
         exact ⟨HM2.out.keeps, HM2.out.stay, by rw [Hst.out]; exact HJ2.out, by rw [Hst.out]; exact HdV2.out, HTV.out.same HM2.out.tab, HM2.out.below⟩
      case done =>
       rintro D V hD ⟨⟨jx, jy, jz, hjb, hjf⟩, hdV, hTV, h5⟩ hKD
       have HEV := Lib.hid (show Ext W1 V from Below.trans HE3.out (Below.mono h5 lo))
       have cV : V.cell? ⟨b2, 0, none⟩ = some (.pointer (some ⟨k1, 0, none⟩)) := (h5.cell (p := ⟨b2, 0, none⟩) (by show b2 < bo3; omega)).trans c3
       have hrV := (h5.block (q + 1) (by omega)).trans h33
       have Hjf := Lib.hid hjf
       have HEX := Lib.hid ((HE0.out.trans HE1.out).trans HEV.out)
       obtain ⟨rs, hrs⟩ : ∃ r, (mulS C.M (upP bi x y) E nb).1 = r := ⟨_, rfl⟩
       rw [hrs] at Hjf
       have Hrs := Lib.hid hrs
       clear hjf hTV hdV hrs h5
       go_upto_region 19 with fail
       refine Par.region_txt 3 [0, 0, 3, 7, 15] [] (fun j f X => match j with
        | 0 => f 0 = .pointer (some ⟨k1, 0, none⟩)
        | 1 => f 1 = JV jx jy jz
        | 2 => ∃ v, f 2 = v ∧ PtV X q v (downT C.M rs)
        | _ => True) (by kernel_rfl) [(69, 0), (70, 1), (71, 2)] (by kernel_rfl) ?_
       refine Par.ld0 1 2 cV ?_
       refine Par.S 2 1 [(69, 0)] (fun f X hX hR K hK => ?_) ?_
       · simp only [yA, yB, yC, yD, yE]
         refine ⟨wp_loadV (v := JV jx jy jz) (t := 199) 199 (.tmp 9) rfl rfl (hX.at_ hjb) Tryz.underlying199 rfl (by rw [Hjf.out.sz]; exact infoJ) rfl ?_⟩
         exact hK.out _ (JV jx jy jz) _ (by simp only [yA, yB, yC, yD, yE]) (Ext.refl _) trivial (fun _ _ => rfl)
       refine Par.c0 3 0 (fun f => #[f 0, f 1]) (F' := 183) (fun f X hX hR => ?_) ?_
       · have e0 : f 0 = _ := hR.out 0 rfl
         have e1 : f 1 = _ := hR.out 1 rfl
         simp only [e0, e1]
         refine (down_j (Hk1.out.ext (HEV.out.trans hX)) HC.out.plen ⟨jx, jy, jz, rfl, Hjf.out⟩).mono ?_
         rintro e w2 ⟨o, rfl, hj, hB⟩
         exact ⟨o, rfl, hB, fun Y hY => ⟨_, rfl, (hj.mono (by have := HEX.out.bsize; have := hX.bsize; have := Hq.out; omega)).ext hY⟩⟩
       refine Par.AllOps.fin ⟨fun f X hX hR hal hap => ?_⟩
       obtain ⟨v2, (e2 : f 2 = _), j2⟩ := hR 2 (by decide)
       simp only [yA, yB, yD, yE, e2]
       clear hR hal hap e2
       obtain ⟨x0, x1, x2, ev, hone, hst⟩ := ptv_store (b := q + 1) j2
       subst ev
       refine Par.Chain.next (fun K hK => ⟨Par.want (by kernel_rfl) (wp_storeV (cs' := #[x0, x1, x2]) (t := 114) 114 (.tmp 6) (.tmp 71) rfl rfl rfl rfl (hX.at_ hrV) infoP rfl hone (fun Y hY1 hY2 hY3 => hK.out _ _ ?_))⟩)
       refine Par.Chain.next (fun K hK => ⟨Par.want (by kernel_rfl) ?_⟩)
       go_simp
       refine hK.out _ _ ?_
       refine Par.Chain.done ?_
       go_wp2
       have hKY : Y.heap[D]? = some (.deferred (some [])) := hY2.at_ (by omega) (hX.at_ hKD)
       have hrY : (Y.putObj D (.deferred none)).heap[q + 1]? = some (.cells #[x0, x1, x2] 114 (0, 0)) := (World.putObj_heap_other (by omega)).trans hY1
       have hEY : Ext w Y := hY2.ext (HEX.out.trans hX) (by have := Hq.out; omega)
       have hst' : PtV Y q (.agg #[x0, x1, x2]) (downT C.M rs) := hst Y hY2 ⟨_, hX.at_ hrV⟩
       have hpo : PtV (Y.putObj D (.deferred none)) q (.agg #[x0, x1, x2]) (downT C.M rs) := hst'.put hKY
       refine ⟨by simp, .inl ⟨_, _, rfl, run_takeDeferred hKY, _, res_pt rfl rfl rfl hrY, ⟨_, rfl, by rw [Hrs.out]; exact hpo, Below.trans hEY (belowK_b (w := w) (Nat.le_refl _) Y D _ _ (by have := Hq.out; omega) hKY rfl rfl)⟩⟩⟩
      case stop => exact fun _ _ _ _ _ _ _ h _ => h.elim
end Go.Proofs.YtendnkpiidhogaaGreat

namespace Go.Proofs.YtendnkpiidhogaaGreat.Ec
open Go.RowKit

def mayE (C : Crv) (x : Nat) : Bool := decide (0 < x) && decide (x < val 18446744073709551616 C.nl)
theorem nbits_pos {x : Nat} : (0 : Int) < (nbits x : Int) ↔ 0 < x := by
 by_cases h : x = 0
 · subst h; simp [nbits_zero]
 · have := (nbits_bounds h).2.2
   omega
theorem emay_any {c : Int} {C : Crv} (hC : IsU c C) (P : Nat → Prop) (A : Option Addr) (cap : Nat) (l : List Nat) (w : World) (h : RN w P A cap l) (hP : ∀ b, P b → b < w.heap.size) :
 Calls Tryz.prog 139 #[.int .i64 c, .slice A l.length cap] w fun e w' => e = .returned (.bool (mayE C (val 18446744073709551616 l))) ∧ Ext w w' := by
 have HB := Lib.hid (bits_any P A cap l w h)
 have HO := Lib.hid (order_u hC w)
 have HC := Lib.hid (fun X (hX : Ext w X) A' c' => fun (h2 : RU X A' c' C.nl) => cmp_any P (fun b => b < X.heap.size) A A' cap c' l C.nl X (h.below hX hP) h2)
 unfold mayE
 obtain ⟨x, hx⟩ : ∃ x, val 18446744073709551616 l = x := ⟨_, rfl⟩
 rw [hx] at HB HC ⊢
 obtain ⟨n, hn⟩ : ∃ n, val 18446744073709551616 C.nl = n := ⟨_, rfl⟩
 simp only [hn] at HC
 rw [hn]
 clear hx hn h hP
 by_cases h0 : 0 < x
 · have k0 : (0 : Int) < (nbits x : Int) := nbits_pos.2 h0
   have Hx := Lib.hid h0
   clear h0
   go_enter Tryz.func139, Tryz.ntmps139
   go_wp2_with fail
   refine HB.out.mono ?_
   rintro e w1 ⟨rfl, rfl⟩
   go_wp2_with fail
   refine HO.out.mono ?_
   rintro e w1 ⟨A', c', rfl, h2, hE⟩
   have HC2 := Lib.hid (HC.out w1 hE A' c' h2)
   have HE := Lib.hid hE
   clear h2 hE
   go_wp2_with fail
   refine HC2.out.mono ?_
   rintro e w2 ⟨rfl, d, rfl⟩
   obtain ⟨z, hz⟩ : ∃ z, cmpV x n = z := ⟨_, rfl⟩
   have Hz := Lib.hid (show (decide (0 < x) && decide (x < n)) = decide (z < 0) by
    rw [← hz, decide_eq_true Hx.out, Bool.true_and]
    unfold cmpV
    by_cases h1 : x < n
    · rw [if_pos h1, decide_eq_true h1]; rfl
    · rw [if_neg h1, decide_eq_false h1]; split <;> rfl)
   rw [hz]
   clear hz
   go_wp2
   go_ret
   exact ⟨by rw [Hz.out]; rfl, HE.out.trans (Ext.drewN _ _)⟩
 · obtain rfl : x = 0 := by omega
   have k0 : ¬ (0 : Int) < (nbits 0 : Int) := by simp [nbits_zero]
   clear h0
   go_enter Tryz.func139, Tryz.ntmps139
   go_wp2_with fail
   refine HB.out.mono ?_
   rintro e w1 ⟨rfl, rfl⟩
   go_wp2
   go_ret
   exact ⟨rfl, Ext.refl _⟩
end Go.Proofs.YtendnkpiidhogaaGreat.Ec

namespace Go.Proofs.YtendnkpiidhogaaGreat.Ec
open Go.RowKit

def pubE (C : Crv) (x : Nat) : Option (Option (Nat × Nat)) := if mayE C x = true then mulC C false (val 18446744073709551616 C.xl) (val 18446744073709551616 C.yl) x else none
theorem nowhere_any (w : World) : Calls Tryz.prog 140 #[] w fun e w' => e = .returned infV ∧ Ext w w' := by
 go_enter Tryz.func140, Tryz.ntmps140
 go_wp2
 exact end_p rfl rfl rfl (heap_alloc_new w _) ⟨rfl, Ext.alloc _ _⟩
theorem PtV.mono {w : World} {base base' : Nat} {v : Value} {o : Option (Nat × Nat)} (h : PtV w base v o) (hb : base' ≤ base) : PtV w base' v o := by
 cases o with
 | none => exact h
 | some p => obtain ⟨A, c, A', c', h0, h1, h2⟩ := h; exact ⟨A, c, A', c', h0, h1.mono hb, h2.mono hb⟩
set_option maxRecDepth 100000 in
set_option maxHeartbeats 4000000 in
theorem public_any {c : Int} {C : Crv} (hC : IsU c C) (P : Nat → Prop) (A : Option Addr) (cap : Nat) (l : List Nat) (w : World) (h : RN w P A cap l) (hP : ∀ b, P b → b < w.heap.size) :
    Calls Tryz.prog 96 #[.int .i64 c, .slice A l.length cap] w fun e w' => ∃ o, e = .returned (.tuple #[o, .bool (pubE C (val 18446744073709551616 l)).isSome]) ∧ PtV w' w.heap.size o (pubE C (val 18446744073709551616 l)).join ∧ Ext w w' := by
  obtain ⟨W0, hW0⟩ : ∃ W0, W0 = w.alloc (.cells #[.bool false, .slice none 0 0, .slice none 0 0] 114) := ⟨_, rfl⟩
  have hr := heap_alloc_new w (.cells #[.bool false, .slice none 0 0, .slice none 0 0] 114)
  have hE0 := Ext.alloc w (.cells #[.bool false, .slice none 0 0, .slice none 0 0] 114)
  have hz : W0.heap.size = w.heap.size + 1 := by rw [hW0]; simp
  rw [← hW0] at hr hE0
  have HM := Lib.hid (emay_any hC P A cap l W0 (h.below hE0 hP) (fun b hb => Nat.lt_of_lt_of_le (hP b hb) hE0.bsize))
  have HU := Lib.hid (fun X (hX : Ext w X) => (show RU X A cap l from (h.below hX hP).ru (fun b hb => Nat.lt_of_lt_of_le (hP b hb) hX.bsize)))
  obtain ⟨x, hx⟩ : ∃ x, val 18446744073709551616 l = x := ⟨_, rfl⟩
  rw [hx] at HM ⊢
  have Hx := Lib.hid hx
  have hp0 : mayE C x = false → pubE C x = none := fun h => by unfold pubE; rw [h]; rfl
  have hp1 : mayE C x = true → pubE C x = mulC C false (val 18446744073709551616 C.xl) (val 18446744073709551616 C.yl) x := fun h => by unfold pubE; rw [h]; rfl
  have hcu : mayE C x = true → IsC c C := fun h => by
    rcases hC with h1 | ⟨_, _, rfl⟩
    · exact h1
    · simp [mayE, c0] at h
  obtain ⟨m, hm⟩ : ∃ m, mayE C x = m := ⟨_, rfl⟩
  rw [hm] at HM hp0 hp1 hcu
  obtain ⟨q, hq⟩ : ∃ q, w.heap.size = q := ⟨_, rfl⟩
  rw [hq] at hr hz ⊢
  have Hq := Lib.hid hq
  have HE0 := Lib.hid hE0
  have Hz := Lib.hid hz
  clear h hP hx hm hq hE0 hz
  cases m
  · rw [hp0 rfl]
    clear hp0 hp1 hcu HU
    go_enter Tryz.func96, Tryz.ntmps96
    go_upto_region 1 with fail
    rw [← hW0, Hq.out]
    clear hW0
    go_wp2_with fail
    refine HM.out.mono ?_
    rintro e w1 ⟨rfl, hE1⟩
    have hr1 := hE1.at_ hr
    have HE1 := Lib.hid (HE0.out.trans hE1)
    clear hr hE1
    go_wp2_with fail
    refine (nowhere_any _).mono ?_
    rintro e w2 ⟨rfl, hE2⟩
    have hr2 := hE2.at_ hr1
    obtain ⟨z0, z1, z2, f0, f1, f2⟩ := pt_facts hr2
    have HE2 := Lib.hid (HE1.out.trans hE2)
    clear hr1 hE2
    unfold infV
    go_wp2
    exact end_pt rfl rfl rfl rfl (pt_set hr2 _ _ _) ⟨_, rfl, rfl, pt_ext HE2.out (by rw [Hq.out]; exact Nat.le_refl _) _ _ _⟩
  · rw [hp1 rfl]
    have hC := hcu rfl
    have HBa := Lib.hid (fun X => base_c hC X)
    have HMu := Lib.hid (fun X (hX : Ext w X) v (hv : APt X v false (val 18446744073709551616 C.xl) (val 18446744073709551616 C.yl)) => mul_c hC X hv (HU.out X hX) Hx.out)
    obtain ⟨R, hRR⟩ : ∃ R, mulC C false (val 18446744073709551616 C.xl) (val 18446744073709551616 C.yl) x = R := ⟨_, rfl⟩
    simp only [hRR] at HMu
    rw [hRR]
    clear hp0 hp1 hcu hC HU hRR
    go_enter Tryz.func96, Tryz.ntmps96
    go_upto_region 1 with fail
    rw [← hW0, Hq.out]
    clear hW0
    go_wp2_with fail
    refine HM.out.mono ?_
    rintro e w1 ⟨rfl, hE1⟩
    have hr1 := hE1.at_ hr
    have HE1 := Lib.hid (HE0.out.trans hE1)
    clear hr hE1
    go_wp2_with fail
    refine (HBa.out _).mono ?_
    rintro e w2 ⟨A2, c2, A3, c3, rfl, h2, h3, hE2⟩
    have hr2 := hE2.at_ hr1
    have HE2 := Lib.hid (HE1.out.trans hE2)
    have HM2 := Lib.hid (HMu.out w2 HE2.out _ ⟨A2, A3, c2, c3, C.xl, C.yl, rfl, h2, h3, rfl, rfl⟩)
    clear hr1 hE2 h2 h3
    go_wp2_with fail
    refine HM2.out.mono ?_
    rintro e w3 ⟨o, rfl, hv, hE3⟩
    have hr3 := hE3.at_ hr2
    have hq2 : q ≤ w2.heap.size := by have := HE2.out.bsize; have := Hq.out; omega
    obtain ⟨z0, z1, z2, f0, f1, f2⟩ := pt_facts hr3
    have HE3 := Lib.hid (HE2.out.trans hE3)
    have hv := PtV.mono hv hq2
    clear hr2 hE3 HM2 hq2
    obtain ⟨b, hb⟩ : ∃ b, R.isSome = b := ⟨_, rfl⟩
    obtain ⟨J, hJ⟩ : ∃ J, R.join = J := ⟨_, rfl⟩
    rw [hb]
    rw [hJ] at hv
    have Hbb := Lib.hid hb
    have HJ := Lib.hid hJ
    clear hb hJ
    cases J with
    | none =>
      obtain rfl : o = infV := hv
      unfold infV
      go_wp2
      exact end_pt rfl rfl rfl rfl (pt_set hr3 _ _ _) ⟨_, by rw [Hbb.out]; rfl, by rw [HJ.out]; rfl, pt_ext HE3.out (by rw [Hq.out]; exact Nat.le_refl _) _ _ _⟩
    | some p =>
      obtain ⟨A5, c5, A6, c6, rfl, h5, h6⟩ := hv
      have H5 := Lib.hid h5
      have H6 := Lib.hid h6
      clear h5 h6
      go_wp2
      exact end_pt rfl rfl rfl rfl (pt_set hr3 _ _ _) ⟨_, by rw [Hbb.out]; rfl, by rw [HJ.out]; exact ⟨A5, c5, A6, c6, rfl, H5.out.just (pt_just _ _ _ _ _) hr3 (by decide), H6.out.just (pt_just _ _ _ _ _) hr3 (by decide)⟩, pt_ext HE3.out (by rw [Hq.out]; exact Nat.le_refl _) _ _ _⟩
end Go.Proofs.YtendnkpiidhogaaGreat.Ec

namespace Go.Proofs.YtendnkpiidhogaaGreat.At
open Go.RowKit Go.Shelf

set_option maxHeartbeats 1000000 in
theorem curve_k (P : Nat → Prop) (A : Option Addr) (c : Nat) (l : Attrs) (w : World) (hv : RA w P A c l) (hP : ∀ b, P b → b < w.heap.size) :
 Calls Tryz.prog 91 #[.slice A l.length c] w fun e w' => ∃ z, e = .returned (.int .i64 z) ∧ Below w.heap.size w w' := by
 have hg := get_any P A c l 384 w hv hP
 obtain ⟨b, hb⟩ : ∃ b, (seek l 384).isSome = b := ⟨_, rfl⟩
 obtain ⟨v, hvv⟩ : ∃ v, (seek l 384).getD [] = v := ⟨_, rfl⟩
 rw [hb, hvv] at hg
 have HG := Lib.hid hg
 clear hg hb hvv hv
 go_enter Tryz.func91, Tryz.ntmps91
 go_wp2_with fail
 refine HG.out.mono ?_
 rintro e w1 ⟨A1, c1, rfl, hr, hB1⟩
 have hs1 := hB1.size
 have HR := Lib.hid (Der.readParams_k _ A1 c1 v w1 hr (fun b hb => hb.2))
 obtain ⟨z, hz⟩ : ∃ z, Der.kpOf v = z := ⟨_, rfl⟩
 rw [hz] at HR
 clear hz hr
 go_wp2_with fail
 refine HR.out.mono ?_
 rintro e w2 ⟨rfl, hB2⟩
 go_wp2
 go_ret
 exact ⟨z, rfl, hB1.trans (hB2.mono hs1)⟩

def WorthP (cl ky : Int) (n : Nat) (e : Ending) : Prop := ∃ ok, e = .returned (.bool ok) ∧ (cl = 4 → ky = 31 → n = 16 → ok = true)
theorem worthP {cl ky : Int} {n : Nat} (ok : Bool) (h : cl = 4 → ky = 31 → n = 16 → ok = true) : WorthP cl ky n (.returned (.bool ok)) := ⟨ok, rfl, h⟩

theorem ptV_shape {w : World} {base : Nat} {o : Value} {J : Option (Nat × Nat)} (h : PtV w base o J) : ∃ bi A n c A' n' c', o = .agg #[.bool bi, .slice A n c, .slice A' n' c'] := by
 cases J with
 | none => exact ⟨true, none, 0, 0, none, 0, 0, h⟩
 | some p => obtain ⟨A, c, A', c', h0, _, _⟩ := h; exact ⟨_, _, _, _, _, _, _, h0⟩

set_option maxRecDepth 100000 in
set_option maxHeartbeats 4000000 in
theorem worth_g (P : Nat → Prop) (A : Option Addr) (c : Nat) (l : Attrs) (cl ky : Int) (w : World) (hk : Kind17 cl ky) (hv : RA w P A c l) (hP : ∀ b, P b → b < w.heap.size) (hl : Short l) :
 Calls Tryz.prog 53 #[.slice A l.length c, .int .i64 cl, .int .i64 ky] w fun e w' => WorthP cl ky ((seek l 17).getD []).length e ∧ Below w.heap.size w w' := by
 have hg := get_any P A c l 17 w hv hP
 have hl17 := hl.seek 17
 obtain ⟨v, hvv⟩ : ∃ v, (seek l 17).getD [] = v := ⟨_, rfl⟩
 rw [hvv] at hg hl17 ⊢
 obtain ⟨b, hb⟩ : ∃ b, (seek l 17).isSome = b := ⟨_, rfl⟩
 obtain ⟨N, hN⟩ : ∃ N, v.length = N := ⟨_, rfl⟩
 rw [hb, hN] at hg
 rw [hN]
 have HN := Lib.hid hN
 have HG := Lib.hid hg
 have HK := Lib.hid (fun (X : World) (hX : Below w.heap.size w X) => rsakey_any P A c l X (hv.below hX hP) (fun b hb => Nat.lt_of_lt_of_le (hP b hb) hX.size) hl.seek)
 have HC := Lib.hid (fun (X : World) (hX : Below w.heap.size w X) => curve_k P A c l X (hv.below hX hP) (fun b hb => Nat.lt_of_lt_of_le (hP b hb) hX.size))
 have Hl := Lib.hid hl17
 clear hg hvv hb hv hP hl hl17 hN
 go_enter Tryz.func53, Tryz.ntmps53
 go_wp2_with fail
 refine HG.out.mono ?_
 rintro e w1 ⟨A1, c1, rfl, hr1, hB1⟩
 have hs1 := hB1.size
 have Hr1 := Lib.hid (hr1.mono (P' := fun b => b < w1.heap.size) fun b hb => hb.2)
 have HB1 := Lib.hid hB1
 clear hB1 hr1
 go_wp2_with fail
 refine (HK.out w1 HB1.out).mono ?_
 rintro e w2 ⟨⟨k, rfl, ⟨a1, a2, a3, a4, a5, n1, n2, n3, n4, n5, c1', c2, c3, c4, c5, rfl⟩⟩, hB2⟩
 have HB2 := Lib.hid (HB1.out.trans (hB2.mono hs1))
 have Hr2 := Lib.hid ((Hr1.out.below hB2 fun b hb => hb).mono (P' := fun b => b < w2.heap.size) fun b hb => Nat.lt_of_lt_of_le hb hB2.size)
 have hs2 := HB2.out.size
 clear hB2 Hr1
 go_wp2_with fail
 refine (HC.out w2 HB2.out).mono ?_
 rintro e w3 ⟨z, rfl, hB3⟩
 have HB3 := Lib.hid (HB2.out.trans (hB3.mono hs2))
 have hr3 := (Hr2.out.below hB3 fun b hb => hb).mono (P' := fun b => b < w3.heap.size) fun b hb => Nat.lt_of_lt_of_le hb hB3.size
 have hs3 := HB3.out.size
 have hE := (Below.refl w3.heap.size w3).alloc (Nat.le_refl _) (.cells #[.slice a1 n1 c1', .slice a2 n2 c2, .slice a3 n3 c3, .slice a4 n4 c4, .slice a5 n5 c5] 108)
 have HE := Lib.hid (HB3.out.trans (hE.mono hs3))
 have Hr := Lib.hid ((hr3.below hE fun b hb => hb).mono (P' := fun b => b < (w3.alloc (.cells #[.slice a1 n1 c1', .slice a2 n2 c2, .slice a3 n3 c3, .slice a4 n4 c4, .slice a5 n5 c5] 108)).heap.size) fun b hb => Nat.lt_of_lt_of_le hb hE.size)
 clear hB3 hr3 hE Hr2
 rcases hk with rfl | ⟨rfl, rfl | rfl⟩ | ⟨rfl, rfl⟩
 · go_wp2
   go_ret
   exact ⟨worthP _ (fun h => by cases h), HE.out⟩
 · go_wp2
   all_goals
    go_ret
    exact ⟨worthP _ (fun _ h => by cases h), HE.out⟩
 · go_wp2
   all_goals
    go_ret
    exact ⟨worthP _ (fun _ _ h => by first | rfl | (exfalso; omega)), HE.out⟩
 · obtain ⟨C, hC⟩ := isU z
   have HP := Lib.hid (fun X A D cc (h : RU X A cc D) => Ec.public_any hC (fun b => b < X.heap.size) A cc D X h (fun b hb => hb))
   have HS := Lib.hid (fun X => size_u hC X)
   clear hC HG HK HC
   obtain ⟨W, hW⟩ : ∃ W, w3.alloc (.cells #[.slice a1 n1 c1', .slice a2 n2 c2, .slice a3 n3 c3, .slice a4 n4 c4, .slice a5 n5 c5] 108) = W := ⟨_, rfl⟩
   rw [hW] at HE Hr
   have HF := Lib.hid (fromBytes_any _ A1 c1 v W Hr.out (fun b hb => hb) Hl.out)
   rw [HN.out] at HF
   have HW := Lib.hid hW
   clear hW
   go_wp2_with fail
   rw [HW.out]
   refine HF.out.mono ?_
   obtain ⟨D, hD⟩ : ∃ D, digs 18446744073709551616 (numOf v) = D := ⟨_, rfl⟩
   rw [hD]
   rintro e w4 ⟨A4, c4, rfl, hO4, hB4⟩
   have HB4 := Lib.hid (HE.out.trans (hB4.mono HE.out.size))
   have H4 := Lib.hid (HP.out w4 A4 D c4 hO4.ru)
   clear hO4 hB4 HP HF
   go_wp2_with fail
   refine H4.out.mono ?_
   rintro e w5 ⟨o, rfl, hv5, hE5⟩
   obtain ⟨bi, o1, o2, o3, o4, o5, o6, rfl⟩ := ptV_shape hv5
   clear hv5
   have HB5 := Lib.hid (HB4.out.trans (Below.mono hE5 HB4.out.size))
   clear hE5 H4
   obtain ⟨q, hq⟩ : ∃ q, (Ec.pubE C (val 18446744073709551616 D)).isSome = q := ⟨_, rfl⟩
   rw [hq]
   clear hq
   have HX := Lib.hid (fun ob => HB5.out.alloc HB5.out.size ob)
   cases q
   · go_wp2
     go_ret
     exact ⟨worthP _ (fun h => by cases h), HX.out _⟩
   · go_wp2_with fail
     refine (HS.out _).mono ?_
     rintro e w6 ⟨rfl, hE6⟩
     have HB6 := Lib.hid ((HX.out _).trans (Below.mono hE6 (HX.out _).size))
     clear hE6
     go_wp2
     go_ret
     exact ⟨worthP _ (fun h => by cases h), HB6.out⟩
end Go.Proofs.YtendnkpiidhogaaGreat.At
