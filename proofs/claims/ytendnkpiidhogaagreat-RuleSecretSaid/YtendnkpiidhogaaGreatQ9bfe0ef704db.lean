/- curve: two points are added. What limb.Each hands back: an iterator over the bits, the highest first. limb.Each's iterator, in the words of a known row of values. zfield: an element is raised to a power. curve.Decode. -/
import Derived.Test.YtendnkpiidhogaaGreatQ41a0e2a8739a
import Derived.RangeFuncNested
import Derived.RangeFuncBound
import Derived.RangeFuncCalls
import Derived.RangeFuncLeaves
import Derived.Shelf.Abstract
import Derived.Shelf.RegionOpen
import Derived.OwnWalkIn
import Derived.TacticsInMore
import Derived.LoopNIn
import Derived.LoopIn
import Derived.ControlIn
import Derived.Sort.CutIn
import Derived.Sort.AtCallIn
import Derived.Deep.DeepCutAuto
namespace Go.Proofs.YtendnkpiidhogaaGreat
open Go.RowKit

def addQ (M x1 y1 z1 x2 y2 z2 : Nat) : Nat × Nat × Nat := let u1 := mm M z1 z1; let u2 := mm M z2 z2; let u3 := mm M x1 u2; let u4 := mm M x2 u1; let u5 := mm M u2 z2; let u6 := mm M y1 u5; let u7 := mm M u1 z1; let u8 := mm M y2 u7; let u9 := sm M u4 u3; let u10 := sm M u8 u6; let u11 := mm M u9 u9; let u12 := mm M u11 u9; let u13 := mm M u3 u11; let u14 := mm M u10 u10; let u15 := sm M u14 u12; let u16 := am M u13 u13; let u17 := sm M u15 u16; let u18 := sm M u13 u17; let u19 := mm M u10 u18; let u20 := mm M u6 u12; let u21 := sm M u19 u20; let u22 := mm M z1 z2; let u23 := mm M u9 u22; if u9 % M = 0 then (if u10 % M = 0 then dblP M x1 y1 z1 else (1, 1, 0)) else (u17, u21, u23)
def addP (M x1 y1 z1 x2 y2 z2 : Nat) : Nat × Nat × Nat := if z1 % M = 0 then (x2, y2, z2) else if z2 % M = 0 then (x1, y1, z1) else addQ M x1 y1 z1 x2 y2 z2
theorem FJ.sz {M n x y z : Nat} {lx ly lz : List Nat} (h : FJ M n lx ly lz x y z) : (nts (lx ++ ly ++ lz)).toArray.size = 18 := by rw [List.size_toArray, nts_length, List.length_append, List.length_append, h.x.elt.six, h.y.elt.six, h.z.elt.six]
theorem three_at (w : World) (o1 o2 o3 : Obj) : (((w.alloc o1).alloc o2).alloc o3).heap[w.heap.size]? = some o1 ∧ (((w.alloc o1).alloc o2).alloc o3).heap[w.heap.size + 1]? = some o2 ∧ (((w.alloc o1).alloc o2).alloc o3).heap[w.heap.size + 2]? = some o3 ∧ (((w.alloc o1).alloc o2).alloc o3).heap.size = w.heap.size + 3 :=
 ⟨(Ext.alloc _ _).at_ (two_at2 w o1 o2).1, (Ext.alloc _ _).at_ (two_at2 w o1 o2).2.1, by have := heap_alloc_new ((w.alloc o1).alloc o2) o3; rwa [(two_at2 w o1 o2).2.2] at this, by simp⟩
set_option maxRecDepth 100000 in
set_option maxHeartbeats 16000000 in
theorem jadd_any {P0 : Nat → Prop} {k g size n inv M bb : Nat} {pl nl bl xl yl ml ol rl tl fl l1x l1y l1z l2x l2y l2z : List Nat} {Ap An Ab Ax Ay : Option Addr} {cp cn cb cx cy x1 y1 z1 x2 y2 z2 : Nat} (w : World)
 (hk : Num w P0 k g size n inv M bb pl nl bl xl yl ml ol rl tl fl Ap An Ab Ax Ay cp cn cb cx cy) (hP0 : ∀ b, P0 b → b < w.heap.size) (hj : FJ M n l1x l1y l1z x1 y1 z1) (hj' : FJ M n l2x l2y l2z x2 y2 z2) :
 Calls Tryz.prog 180 #[.pointer (some ⟨k, 0, none⟩), JV l1x l1y l1z, JV l2x l2y l2z] w fun e w' => ∃ ox oy oz, e = .returned (JV ox oy oz) ∧ FJ M n ox oy oz (addP M x1 y1 z1 x2 y2 z2).1 (addP M x1 y1 z1 x2 y2 z2).2.1 (addP M x1 y1 z1 x2 y2 z2).2.2 ∧ Ext w w' := by
 obtain ⟨cs, hcs⟩ : ∃ cs, (nts (l1x ++ l1y ++ l1z)).toArray = cs := ⟨_, rfl⟩
 obtain ⟨ct, hct⟩ : ∃ ct, (nts (l2x ++ l2y ++ l2z)).toArray = ct := ⟨_, rfl⟩
 obtain ⟨W0, hW0⟩ : ∃ W0, W0 = ((w.alloc (.cells cs 199)).alloc (.cells ct 199)).alloc (.cells #[.int .u64 0, .int .u64 0, .int .u64 0, .int .u64 0, .int .u64 0, .int .u64 0, .int .u64 0, .int .u64 0, .int .u64 0, .int .u64 0, .int .u64 0, .int .u64 0, .int .u64 0, .int .u64 0, .int .u64 0, .int .u64 0, .int .u64 0, .int .u64 0] 199) := ⟨_, rfl⟩
 obtain ⟨q, hq⟩ : ∃ q, w.heap.size = q := ⟨_, rfl⟩
 have hE0 : Ext w W0 := by rw [hW0]; exact ((Ext.alloc _ _).trans (Ext.alloc _ _)).trans (Ext.alloc _ _)
 obtain ⟨hp1, hp2, hrb, hz0⟩ := three_at w (.cells cs 199) (.cells ct 199) (.cells #[.int .u64 0, .int .u64 0, .int .u64 0, .int .u64 0, .int .u64 0, .int .u64 0, .int .u64 0, .int .u64 0, .int .u64 0, .int .u64 0, .int .u64 0, .int .u64 0, .int .u64 0, .int .u64 0, .int .u64 0, .int .u64 0, .int .u64 0, .int .u64 0] 199)
 rw [← hW0, hq] at hp1 hp2 hrb hz0
 have hp1 : BlkJ W0 q l1x l1y l1z := by rw [BlkJ, hcs]; exact hp1
 have hp2 : BlkJ W0 (q + 1) l2x l2y l2z := by rw [BlkJ, hct]; exact hp2
 have hn := Lib.hid (hk.ext hP0 hE0)
 have hP0' : ∀ b, P0 b → b < W0.heap.size := fun b hb => Nat.lt_of_lt_of_le (hP0 b hb) hE0.bsize
 have k6 := hn.out.c_f
 have hJ1 := Lib.hid hj
 have hJ2 := Lib.hid hj'
 have HE0 := Lib.hid hE0
 have Hz0 := Lib.hid hz0
 rw [show JV l1x l1y l1z = .agg cs by rw [JV, hcs], show JV l2x l2y l2z = .agg ct by rw [JV, hct]]
 clear hE0 hz0 hk hP0 hj hj' hcs hct
 by_cases h1 : z1 % M = 0
 · have h1n := Lib.hid h1
   rw [show addP M x1 y1 z1 x2 y2 z2 = (x2, y2, z2) by rw [addP, if_pos h1]]
   clear h1 k6
   go_enter Tryz.func180, Tryz.ntmps180
   go_upto_region 1 with fail
   rw [← hW0]
   have Hq := Lib.hid hq
   have HW0 := Lib.hid hW0
   have hE := Ext.refl W0
   clear hq hW0
   refine Par.region_txt 4 [0, 1, 3, 7] [] (fun j f X => match j with
    | 0 => f 0 = .pointer (some ⟨q, 12, none⟩)
    | 1 => ∃ o, f 1 = EV o ∧ FE M n o z1
    | 2 => f 2 = .bool true
    | 3 => f 3 = .bool true
    | _ => True) (by kernel_rfl) [(22, 0), (23, 1), (24, 2), (21, 3)] (by kernel_rfl) ?_
   refine Par.v0 1 3 ?_
   refine lE 2 2 0 (fun _ hX => BlkJ.rz ((hE.trans hX).at_ hp1) hJ1.out.x.elt.six hJ1.out.y.elt.six) hJ1.out.z ?_
   refine Par.c0 3 1 (fun f => #[f 1]) (F' := 177) (fun f X hX hR => ?_) ?_
   · obtain ⟨o1, (e1 : f 1 = _), h1⟩ := hR.out 1 rfl
     simp only [e1]
     refine (zero_any o1 X h1.elt.six).mono ?_
     rintro e w2 ⟨rfl, hB⟩
     rw [show decide (o1 = [0, 0, 0, 0, 0, 0]) = true by rw [decide_eq_decide.2 (h1.zero_iff (hn.out.ext hP0' (hE.trans hX)).fr.ff)]; exact decide_eq_true h1n.out]
     exact ⟨(.bool true), rfl, hB, fun _ _ => rfl⟩
   refine Par.v1 4 0 2 ?_
   refine Par.AllOps.fin ⟨fun f X hX hR hal hap => ?_⟩
   obtain ⟨o1, (e1 : f 1 = _), h1⟩ := hR 1 (by decide)
   have e3 : f 3 = _ := hR 3 (by decide)
   simp only [yA, yB, yD, yE, e1, e3]
   clear hR hal hap e1 e3
   refine Par.Chain.done ?_
   replace hE := hE.trans hX
   clear hX
   rename World => X1_
   go_upto_region 2 with fail
   have hb1 := hE.at_ hrb
   refine Par.region_txt 1 [0, 1] [] (fun j f X => match j with
    | 0 => f 0 = JV l2x l2y l2z
    | _ => True) (by kernel_rfl) [(25, 0)] (by kernel_rfl) ?_
   refine Par.S 1 0 [] (fun f X hX hR K hK => ?_) ?_
   · simp only [yB, yC, yD, yE]
     refine ⟨Par.want (by kernel_rfl) (wp_loadV (v := JV l2x l2y l2z) 199 (.tmp 5) rfl rfl ((hE.trans hX).at_ hp2) Tryz.underlying199 rfl (by rw [hJ2.out.sz]; exact infoJ) rfl ?_)⟩
     exact hK.out _ (JV l2x l2y l2z) _ (by simp only [yB, yC, yD, yE]) (Ext.refl _) trivial (fun _ _ => rfl)
   refine Par.AllOps.fin ⟨fun f X hX hR hal hap => ?_⟩
   have e0 : f 0 = _ := hR 0 (by decide)
   simp only [yA, yB, yD, yE, e0]
   clear hR hal hap e0
   refine Par.Chain.next (fun K hK => ⟨Par.want (by kernel_rfl) (wp_storeJ (x := l2x) (y := l2y) (z := l2z) (.tmp 6) (.tmp 25) rfl rfl rfl rfl (hX.at_ hb1) rfl hJ2.out.x.elt.six hJ2.out.y.elt.six hJ2.out.z.elt.six (fun Y hY1 hY2 hY3 => hK.out _ _ ?_))⟩)
   refine Par.Chain.done ?_
   go_wp2
   exact end_j rfl rfl rfl hY1 hJ2.out.x.elt.six hJ2.out.y.elt.six hJ2.out.z.elt.six ⟨_, _, _, rfl, hJ2.out, hY2.ext (HE0.out.trans (hE.trans hX)) (by have := Hq.out; omega)⟩
 by_cases h2 : z2 % M = 0
 · have h1n := Lib.hid h1
   have h2n := Lib.hid h2
   rw [show addP M x1 y1 z1 x2 y2 z2 = (x1, y1, z1) by rw [addP, if_neg h1, if_pos h2]]
   clear h1 h2 k6
   go_enter Tryz.func180, Tryz.ntmps180
   go_upto_region 1 with fail
   rw [← hW0]
   have Hq := Lib.hid hq
   have HW0 := Lib.hid hW0
   have hE := Ext.refl W0
   clear hq hW0
   refine Par.region_txt 4 [0, 1, 3, 7] [] (fun j f X => match j with
    | 0 => f 0 = .pointer (some ⟨q, 12, none⟩)
    | 1 => ∃ o, f 1 = EV o ∧ FE M n o z1
    | 2 => f 2 = .bool false
    | 3 => f 3 = .bool false
    | _ => True) (by kernel_rfl) [(22, 0), (23, 1), (24, 2), (21, 3)] (by kernel_rfl) ?_
   refine Par.v0 1 3 ?_
   refine lE 2 2 0 (fun _ hX => BlkJ.rz ((hE.trans hX).at_ hp1) hJ1.out.x.elt.six hJ1.out.y.elt.six) hJ1.out.z ?_
   refine Par.c0 3 1 (fun f => #[f 1]) (F' := 177) (fun f X hX hR => ?_) ?_
   · obtain ⟨o1, (e1 : f 1 = _), h1⟩ := hR.out 1 rfl
     simp only [e1]
     refine (zero_any o1 X h1.elt.six).mono ?_
     rintro e w2 ⟨rfl, hB⟩
     rw [show decide (o1 = [0, 0, 0, 0, 0, 0]) = false by rw [decide_eq_decide.2 (h1.zero_iff (hn.out.ext hP0' (hE.trans hX)).fr.ff)]; exact decide_eq_false h1n.out]
     exact ⟨(.bool false), rfl, hB, fun _ _ => rfl⟩
   refine Par.v1 4 0 2 ?_
   refine Par.AllOps.fin ⟨fun f X hX hR hal hap => ?_⟩
   obtain ⟨o1, (e1 : f 1 = _), h1⟩ := hR 1 (by decide)
   have e3 : f 3 = _ := hR 3 (by decide)
   simp only [yA, yB, yD, yE, e1, e3]
   clear hR hal hap e1 e3
   refine Par.Chain.done ?_
   replace hE := hE.trans hX
   clear hX
   rename World => X1_
   go_upto_region 3 with fail
   refine Par.region_txt 4 [0, 1, 3, 7] [] (fun j f X => match j with
    | 0 => f 0 = .pointer (some ⟨q + 1, 12, none⟩)
    | 1 => ∃ o, f 1 = EV o ∧ FE M n o z2
    | 2 => f 2 = .bool true
    | 3 => f 3 = .bool true
    | _ => True) (by kernel_rfl) [(27, 0), (28, 1), (29, 2), (26, 3)] (by kernel_rfl) ?_
   refine Par.v0 1 3 ?_
   refine lE 2 2 0 (fun _ hX => BlkJ.rz ((hE.trans hX).at_ hp2) hJ2.out.x.elt.six hJ2.out.y.elt.six) hJ2.out.z ?_
   refine Par.c0 3 1 (fun f => #[f 1]) (F' := 177) (fun f X hX hR => ?_) ?_
   · obtain ⟨o1, (e1 : f 1 = _), h1⟩ := hR.out 1 rfl
     simp only [e1]
     refine (zero_any o1 X h1.elt.six).mono ?_
     rintro e w2 ⟨rfl, hB⟩
     rw [show decide (o1 = [0, 0, 0, 0, 0, 0]) = true by rw [decide_eq_decide.2 (h1.zero_iff (hn.out.ext hP0' (hE.trans hX)).fr.ff)]; exact decide_eq_true h2n.out]
     exact ⟨(.bool true), rfl, hB, fun _ _ => rfl⟩
   refine Par.v1 4 0 2 ?_
   refine Par.AllOps.fin ⟨fun f X hX hR hal hap => ?_⟩
   obtain ⟨o1, (e1 : f 1 = _), h1⟩ := hR 1 (by decide)
   have e3 : f 3 = _ := hR 3 (by decide)
   simp only [yA, yB, yD, yE, e1, e3]
   clear hR hal hap e1 e3
   refine Par.Chain.done ?_
   replace hE := hE.trans hX
   clear hX
   rename World => X2_
   go_upto_region 4 with fail
   have hb1 := hE.at_ hrb
   refine Par.region_txt 1 [0, 1] [] (fun j f X => match j with
    | 0 => f 0 = JV l1x l1y l1z
    | _ => True) (by kernel_rfl) [(30, 0)] (by kernel_rfl) ?_
   refine Par.S 1 0 [] (fun f X hX hR K hK => ?_) ?_
   · simp only [yB, yC, yD, yE]
     refine ⟨Par.want (by kernel_rfl) (wp_loadV (v := JV l1x l1y l1z) 199 (.tmp 4) rfl rfl ((hE.trans hX).at_ hp1) Tryz.underlying199 rfl (by rw [hJ1.out.sz]; exact infoJ) rfl ?_)⟩
     exact hK.out _ (JV l1x l1y l1z) _ (by simp only [yB, yC, yD, yE]) (Ext.refl _) trivial (fun _ _ => rfl)
   refine Par.AllOps.fin ⟨fun f X hX hR hal hap => ?_⟩
   have e0 : f 0 = _ := hR 0 (by decide)
   simp only [yA, yB, yD, yE, e0]
   clear hR hal hap e0
   refine Par.Chain.next (fun K hK => ⟨Par.want (by kernel_rfl) (wp_storeJ (x := l1x) (y := l1y) (z := l1z) (.tmp 6) (.tmp 30) rfl rfl rfl rfl (hX.at_ hb1) rfl hJ1.out.x.elt.six hJ1.out.y.elt.six hJ1.out.z.elt.six (fun Y hY1 hY2 hY3 => hK.out _ _ ?_))⟩)
   refine Par.Chain.done ?_
   go_wp2
   exact end_j rfl rfl rfl hY1 hJ1.out.x.elt.six hJ1.out.y.elt.six hJ1.out.z.elt.six ⟨_, _, _, rfl, hJ1.out, hY2.ext (HE0.out.trans (hE.trans hX)) (by have := Hq.out; omega)⟩
 · have h1n := Lib.hid h1
   have h2n := Lib.hid h2
   rw [show addP M x1 y1 z1 x2 y2 z2 = addQ M x1 y1 z1 x2 y2 z2 by rw [addP, if_neg h1, if_neg h2]]
   clear h1 h2
   obtain ⟨u1, e_u1⟩ : ∃ v, mm M z1 z1 = v := ⟨_, rfl⟩
   have E_u1 := Lib.hid e_u1
   clear e_u1
   obtain ⟨u2, e_u2⟩ : ∃ v, mm M z2 z2 = v := ⟨_, rfl⟩
   have E_u2 := Lib.hid e_u2
   clear e_u2
   obtain ⟨u3, e_u3⟩ : ∃ v, mm M x1 u2 = v := ⟨_, rfl⟩
   have E_u3 := Lib.hid e_u3
   clear e_u3
   obtain ⟨u4, e_u4⟩ : ∃ v, mm M x2 u1 = v := ⟨_, rfl⟩
   have E_u4 := Lib.hid e_u4
   clear e_u4
   obtain ⟨u5, e_u5⟩ : ∃ v, mm M u2 z2 = v := ⟨_, rfl⟩
   have E_u5 := Lib.hid e_u5
   clear e_u5
   obtain ⟨u6, e_u6⟩ : ∃ v, mm M y1 u5 = v := ⟨_, rfl⟩
   have E_u6 := Lib.hid e_u6
   clear e_u6
   obtain ⟨u7, e_u7⟩ : ∃ v, mm M u1 z1 = v := ⟨_, rfl⟩
   have E_u7 := Lib.hid e_u7
   clear e_u7
   obtain ⟨u8, e_u8⟩ : ∃ v, mm M y2 u7 = v := ⟨_, rfl⟩
   have E_u8 := Lib.hid e_u8
   clear e_u8
   obtain ⟨u9, e_u9⟩ : ∃ v, sm M u4 u3 = v := ⟨_, rfl⟩
   have E_u9 := Lib.hid e_u9
   clear e_u9
   obtain ⟨u10, e_u10⟩ : ∃ v, sm M u8 u6 = v := ⟨_, rfl⟩
   have E_u10 := Lib.hid e_u10
   clear e_u10
   obtain ⟨u11, e_u11⟩ : ∃ v, mm M u9 u9 = v := ⟨_, rfl⟩
   have E_u11 := Lib.hid e_u11
   clear e_u11
   obtain ⟨u12, e_u12⟩ : ∃ v, mm M u11 u9 = v := ⟨_, rfl⟩
   have E_u12 := Lib.hid e_u12
   clear e_u12
   obtain ⟨u13, e_u13⟩ : ∃ v, mm M u3 u11 = v := ⟨_, rfl⟩
   have E_u13 := Lib.hid e_u13
   clear e_u13
   obtain ⟨u14, e_u14⟩ : ∃ v, mm M u10 u10 = v := ⟨_, rfl⟩
   have E_u14 := Lib.hid e_u14
   clear e_u14
   obtain ⟨u15, e_u15⟩ : ∃ v, sm M u14 u12 = v := ⟨_, rfl⟩
   have E_u15 := Lib.hid e_u15
   clear e_u15
   obtain ⟨u16, e_u16⟩ : ∃ v, am M u13 u13 = v := ⟨_, rfl⟩
   have E_u16 := Lib.hid e_u16
   clear e_u16
   obtain ⟨u17, e_u17⟩ : ∃ v, sm M u15 u16 = v := ⟨_, rfl⟩
   have E_u17 := Lib.hid e_u17
   clear e_u17
   obtain ⟨u18, e_u18⟩ : ∃ v, sm M u13 u17 = v := ⟨_, rfl⟩
   have E_u18 := Lib.hid e_u18
   clear e_u18
   obtain ⟨u19, e_u19⟩ : ∃ v, mm M u10 u18 = v := ⟨_, rfl⟩
   have E_u19 := Lib.hid e_u19
   clear e_u19
   obtain ⟨u20, e_u20⟩ : ∃ v, mm M u6 u12 = v := ⟨_, rfl⟩
   have E_u20 := Lib.hid e_u20
   clear e_u20
   obtain ⟨u21, e_u21⟩ : ∃ v, sm M u19 u20 = v := ⟨_, rfl⟩
   have E_u21 := Lib.hid e_u21
   clear e_u21
   obtain ⟨u22, e_u22⟩ : ∃ v, mm M z1 z2 = v := ⟨_, rfl⟩
   have E_u22 := Lib.hid e_u22
   clear e_u22
   obtain ⟨u23, e_u23⟩ : ∃ v, mm M u9 u22 = v := ⟨_, rfl⟩
   have E_u23 := Lib.hid e_u23
   clear e_u23
   have hres := Lib.hid (show addQ M x1 y1 z1 x2 y2 z2 = if u9 % M = 0 then (if u10 % M = 0 then dblP M x1 y1 z1 else (1, 1, 0)) else (u17, u21, u23) by simp only [addQ, E_u1.out, E_u2.out, E_u3.out, E_u4.out, E_u5.out, E_u6.out, E_u7.out, E_u8.out, E_u9.out, E_u10.out, E_u11.out, E_u12.out, E_u13.out, E_u14.out, E_u15.out, E_u16.out, E_u17.out, E_u18.out, E_u19.out, E_u20.out, E_u21.out, E_u22.out, E_u23.out])
   obtain ⟨res, hq0⟩ : ∃ r, addQ M x1 y1 z1 x2 y2 z2 = r := ⟨_, rfl⟩
   rw [hq0]
   have Hq0 := Lib.hid hq0
   clear hq0
   go_enter Tryz.func180, Tryz.ntmps180
   go_upto_region 1 with fail
   rw [← hW0]
   have Hq := Lib.hid hq
   have HW0 := Lib.hid hW0
   have hE := Ext.refl W0
   clear hq hW0
   refine Par.region_txt 4 [0, 1, 3, 7] [] (fun j f X => match j with
    | 0 => f 0 = .pointer (some ⟨q, 12, none⟩)
    | 1 => ∃ o, f 1 = EV o ∧ FE M n o z1
    | 2 => f 2 = .bool false
    | 3 => f 3 = .bool false
    | _ => True) (by kernel_rfl) [(22, 0), (23, 1), (24, 2), (21, 3)] (by kernel_rfl) ?_
   refine Par.v0 1 3 ?_
   refine lE 2 2 0 (fun _ hX => BlkJ.rz ((hE.trans hX).at_ hp1) hJ1.out.x.elt.six hJ1.out.y.elt.six) hJ1.out.z ?_
   refine Par.c0 3 1 (fun f => #[f 1]) (F' := 177) (fun f X hX hR => ?_) ?_
   · obtain ⟨o1, (e1 : f 1 = _), h1⟩ := hR.out 1 rfl
     simp only [e1]
     refine (zero_any o1 X h1.elt.six).mono ?_
     rintro e w2 ⟨rfl, hB⟩
     rw [show decide (o1 = [0, 0, 0, 0, 0, 0]) = false by rw [decide_eq_decide.2 (h1.zero_iff (hn.out.ext hP0' (hE.trans hX)).fr.ff)]; exact decide_eq_false h1n.out]
     exact ⟨(.bool false), rfl, hB, fun _ _ => rfl⟩
   refine Par.v1 4 0 2 ?_
   refine Par.AllOps.fin ⟨fun f X hX hR hal hap => ?_⟩
   obtain ⟨o1, (e1 : f 1 = _), h1⟩ := hR 1 (by decide)
   have e3 : f 3 = _ := hR 3 (by decide)
   simp only [yA, yB, yD, yE, e1, e3]
   clear hR hal hap e1 e3
   refine Par.Chain.done ?_
   replace hE := hE.trans hX
   clear hX
   rename World => X1_
   go_upto_region 3 with fail
   refine Par.region_txt 4 [0, 1, 3, 7] [] (fun j f X => match j with
    | 0 => f 0 = .pointer (some ⟨q + 1, 12, none⟩)
    | 1 => ∃ o, f 1 = EV o ∧ FE M n o z2
    | 2 => f 2 = .bool false
    | 3 => f 3 = .bool false
    | _ => True) (by kernel_rfl) [(27, 0), (28, 1), (29, 2), (26, 3)] (by kernel_rfl) ?_
   refine Par.v0 1 3 ?_
   refine lE 2 2 0 (fun _ hX => BlkJ.rz ((hE.trans hX).at_ hp2) hJ2.out.x.elt.six hJ2.out.y.elt.six) hJ2.out.z ?_
   refine Par.c0 3 1 (fun f => #[f 1]) (F' := 177) (fun f X hX hR => ?_) ?_
   · obtain ⟨o1, (e1 : f 1 = _), h1⟩ := hR.out 1 rfl
     simp only [e1]
     refine (zero_any o1 X h1.elt.six).mono ?_
     rintro e w2 ⟨rfl, hB⟩
     rw [show decide (o1 = [0, 0, 0, 0, 0, 0]) = false by rw [decide_eq_decide.2 (h1.zero_iff (hn.out.ext hP0' (hE.trans hX)).fr.ff)]; exact decide_eq_false h2n.out]
     exact ⟨(.bool false), rfl, hB, fun _ _ => rfl⟩
   refine Par.v1 4 0 2 ?_
   refine Par.AllOps.fin ⟨fun f X hX hR hal hap => ?_⟩
   obtain ⟨o1, (e1 : f 1 = _), h1⟩ := hR 1 (by decide)
   have e3 : f 3 = _ := hR 3 (by decide)
   simp only [yA, yB, yD, yE, e1, e3]
   clear hR hal hap e1 e3
   refine Par.Chain.done ?_
   replace hE := hE.trans hX
   clear hX
   rename World => X2_
   have k6' := hE.cell k6
   go_upto_region 6 with fail
   clear k6'
   refine Par.region_ext (by kernel_rfl) 14 [0, 0, 2, 0, 8, 31, 0, 0, 128, 0, 512, 2047, 0, 0, 16383, 32767] [12, 13] (fun j f X => match j with
    | 0 => f 0 = .pointer (some ⟨g, 0, none⟩)
    | 1 => f 1 = .pointer (some ⟨q, 12, none⟩)
    | 2 => ∃ o, f 2 = EV o ∧ FE M n o z1
    | 3 => f 3 = .pointer (some ⟨q, 12, none⟩)
    | 4 => ∃ o, f 4 = EV o ∧ FE M n o z1
    | 5 => ∃ o, f 5 = EV o ∧ FE M n o u1
    | 6 => f 6 = .pointer (some ⟨g, 0, none⟩)
    | 7 => f 7 = .pointer (some ⟨q + 1, 12, none⟩)
    | 8 => ∃ o, f 8 = EV o ∧ FE M n o z2
    | 9 => f 9 = .pointer (some ⟨q + 1, 12, none⟩)
    | 10 => ∃ o, f 10 = EV o ∧ FE M n o z2
    | 11 => ∃ o, f 11 = EV o ∧ FE M n o u2
    | 12 => ∃ b, f 12 = .pointer (some ⟨b, 0, none⟩) ∧ X2_.heap.size ≤ b ∧ X.heap[b]? = some (.cells #[.int .u64 0, .int .u64 0, .int .u64 0, .int .u64 0, .int .u64 0, .int .u64 0] 160 (0, 0))
    | 13 => ∃ b, f 13 = .pointer (some ⟨b, 0, none⟩) ∧ X2_.heap.size ≤ b ∧ X.heap[b]? = some (.cells #[.int .u64 0, .int .u64 0, .int .u64 0, .int .u64 0, .int .u64 0, .int .u64 0] 160 (0, 0))
    | _ => True) (by kernel_rfl) [(35, 0), (36, 1), (37, 2), (38, 3), (39, 4), (40, 5), (41, 6), (42, 7), (43, 8), (44, 9), (45, 10), (46, 11), (8, 12), (9, 13)] (by kernel_rfl) ?_
   refine Par.v0 1 13 ?_
   refine Par.v0 2 12 ?_
   refine lE 3 11 1 (fun _ hX => BlkJ.rz ((hE.trans hX).at_ hp1) hJ1.out.x.elt.six hJ1.out.y.elt.six) hJ1.out.z ?_
   refine Par.v0 4 10 ?_
   refine lE 5 9 3 (fun _ hX => BlkJ.rz ((hE.trans hX).at_ hp1) hJ1.out.x.elt.six hJ1.out.y.elt.six) hJ1.out.z ?_
   refine fc 6 8 0 2 4 (fun X hX _ _ h h' => fm_any X (hn.out.ext hP0' (hE.trans hX)).fr.ff h h') E_u1.out ?_
   refine Par.v0 7 7 ?_
   refine Par.v0 8 6 ?_
   refine lE 9 5 7 (fun _ hX => BlkJ.rz ((hE.trans hX).at_ hp2) hJ2.out.x.elt.six hJ2.out.y.elt.six) hJ2.out.z ?_
   refine Par.v0 10 4 ?_
   refine lE 11 3 9 (fun _ hX => BlkJ.rz ((hE.trans hX).at_ hp2) hJ2.out.x.elt.six hJ2.out.y.elt.six) hJ2.out.z ?_
   refine fc 12 2 6 8 10 (fun X hX _ _ h h' => fm_any X (hn.out.ext hP0' (hE.trans hX)).fr.ff h h') E_u2.out ?_
   refine Par.al 13 1 ?_
   refine Par.al 14 0 ?_
   refine Par.AllOps.fin ⟨fun f X hX hR hal hap => ?_⟩
   obtain ⟨o2, (e2 : f 2 = _), h2⟩ := hR 2 (by decide)
   obtain ⟨o4, (e4 : f 4 = _), h4⟩ := hR 4 (by decide)
   obtain ⟨o5, (e5 : f 5 = _), h5⟩ := hR 5 (by decide)
   obtain ⟨o8, (e8 : f 8 = _), h8⟩ := hR 8 (by decide)
   obtain ⟨o10, (e10 : f 10 = _), h10⟩ := hR 10 (by decide)
   obtain ⟨o11, (e11 : f 11 = _), h11⟩ := hR 11 (by decide)
   obtain ⟨br6_12, (e12 : f 12 = _), lr6_12, hr6_12⟩ := hR 12 (by decide)
   obtain ⟨br6_13, (e13 : f 13 = _), lr6_13, hr6_13⟩ := hR 13 (by decide)
   have nr6_13_12 : br6_13 ≠ br6_12 := fun e => hap 13 12 (by decide) (by decide) rfl rfl (by decide) (by rw [e13, e12, e])
   simp only [yA, yB, yD, yE, e2, e4, e5, e8, e10, e11, e12, e13]
   clear hR hal hap e2 e4 e5 e8 e10 e11 e12 e13
   refine Par.Chain.next (fun K hK => ⟨Par.want (by kernel_rfl) (wp_storeE (.tmp 8) (.tmp 40) rfl rfl rfl rfl (hr6_12) zero6 h5.elt.six (fun Y3_14 hl3_14 => hK.out _ _ ?_))⟩)
   refine Par.Chain.next (fun K hK => ⟨Par.want (by kernel_rfl) (wp_storeE (.tmp 9) (.tmp 46) rfl rfl rfl rfl (hl3_14.other nr6_13_12 (hr6_13)) zero6 h11.elt.six (fun Y3_15 hl3_15 => hK.out _ _ ?_))⟩)
   refine Par.Chain.done ?_
   have vbr6_12 : VE Y3_15 M n br6_12 u1 := (hl3_15.ve (Ne.symm nr6_13_12) (hl3_14.mk' h5))
   have lb_vbr6_12 := Nat.le_trans hE.bsize lr6_12
   have vbr6_13 : VE Y3_15 M n br6_13 u2 := (hl3_15.mk' h11)
   have lb_vbr6_13 := Nat.le_trans hE.bsize lr6_13
   have d_br6_12_br6_13 : br6_12 ≠ br6_13 := (Ne.symm nr6_13_12)
   have hE' : Ext W0 Y3_15 := (hl3_15.ext (hl3_14.ext (hE.trans hX) (Nat.le_trans hE.bsize lr6_12)) (Nat.le_trans hE.bsize lr6_13))
   clear hE hX hl3_14 hl3_15 h2 h4 h5 h8 h10 h11 
   have hE := hE'
   clear hE'
   go_upto_region 7 with fail
   refine Par.region_ext (by kernel_rfl) 12 [0, 0, 2, 0, 15, 0, 0, 64, 0, 511, 0, 0, 4095, 8191] [10, 11] (fun j f X => match j with
    | 0 => f 0 = .pointer (some ⟨g, 0, none⟩)
    | 1 => f 1 = .pointer (some ⟨q, 0, none⟩)
    | 2 => ∃ o, f 2 = EV o ∧ FE M n o x1
    | 3 => ∃ o, f 3 = EV o ∧ FE M n o u2
    | 4 => ∃ o, f 4 = EV o ∧ FE M n o u3
    | 5 => f 5 = .pointer (some ⟨g, 0, none⟩)
    | 6 => f 6 = .pointer (some ⟨q + 1, 0, none⟩)
    | 7 => ∃ o, f 7 = EV o ∧ FE M n o x2
    | 8 => ∃ o, f 8 = EV o ∧ FE M n o u1
    | 9 => ∃ o, f 9 = EV o ∧ FE M n o u4
    | 10 => ∃ b, f 10 = .pointer (some ⟨b, 0, none⟩) ∧ Y3_15.heap.size ≤ b ∧ X.heap[b]? = some (.cells #[.int .u64 0, .int .u64 0, .int .u64 0, .int .u64 0, .int .u64 0, .int .u64 0] 160 (0, 0))
    | 11 => ∃ b, f 11 = .pointer (some ⟨b, 0, none⟩) ∧ Y3_15.heap.size ≤ b ∧ X.heap[b]? = some (.cells #[.int .u64 0, .int .u64 0, .int .u64 0, .int .u64 0, .int .u64 0, .int .u64 0] 160 (0, 0))
    | _ => True) (by kernel_rfl) [(47, 0), (48, 1), (49, 2), (50, 3), (51, 4), (52, 5), (53, 6), (54, 7), (55, 8), (56, 9), (10, 10), (11, 11)] (by kernel_rfl) ?_
   refine Par.v0 1 11 ?_
   refine Par.v0 2 10 ?_
   refine lE 3 9 1 (fun _ hX => BlkJ.rx ((hE.trans hX).at_ hp1)) hJ1.out.x ?_
   refine lX 4 8 (fun X hX => let ⟨o, hbl, ho⟩ := vbr6_13.ext hX; ⟨o, hbl.range, ho⟩) ?_
   refine fc 5 7 0 2 3 (fun X hX _ _ h h' => fm_any X (hn.out.ext hP0' (hE.trans hX)).fr.ff h h') E_u3.out ?_
   refine Par.v0 6 6 ?_
   refine Par.v0 7 5 ?_
   refine lE 8 4 6 (fun _ hX => BlkJ.rx ((hE.trans hX).at_ hp2)) hJ2.out.x ?_
   refine lX 9 3 (fun X hX => let ⟨o, hbl, ho⟩ := vbr6_12.ext hX; ⟨o, hbl.range, ho⟩) ?_
   refine fc 10 2 5 7 8 (fun X hX _ _ h h' => fm_any X (hn.out.ext hP0' (hE.trans hX)).fr.ff h h') E_u4.out ?_
   refine Par.al 11 1 ?_
   refine Par.al 12 0 ?_
   refine Par.AllOps.fin ⟨fun f X hX hR hal hap => ?_⟩
   obtain ⟨o2, (e2 : f 2 = _), h2⟩ := hR 2 (by decide)
   obtain ⟨o3, (e3 : f 3 = _), h3⟩ := hR 3 (by decide)
   obtain ⟨o4, (e4 : f 4 = _), h4⟩ := hR 4 (by decide)
   obtain ⟨o7, (e7 : f 7 = _), h7⟩ := hR 7 (by decide)
   obtain ⟨o8, (e8 : f 8 = _), h8⟩ := hR 8 (by decide)
   obtain ⟨o9, (e9 : f 9 = _), h9⟩ := hR 9 (by decide)
   obtain ⟨br7_10, (e10 : f 10 = _), lr7_10, hr7_10⟩ := hR 10 (by decide)
   obtain ⟨br7_11, (e11 : f 11 = _), lr7_11, hr7_11⟩ := hR 11 (by decide)
   have nr7_11_10 : br7_11 ≠ br7_10 := fun e => hap 11 10 (by decide) (by decide) rfl rfl (by decide) (by rw [e11, e10, e])
   simp only [yA, yB, yD, yE, e2, e3, e4, e7, e8, e9, e10, e11]
   clear hR hal hap e2 e3 e4 e7 e8 e9 e10 e11
   refine Par.Chain.next (fun K hK => ⟨Par.want (by kernel_rfl) (wp_storeE (.tmp 10) (.tmp 51) rfl rfl rfl rfl (hr7_10) zero6 h4.elt.six (fun Y4_12 hl4_12 => hK.out _ _ ?_))⟩)
   refine Par.Chain.next (fun K hK => ⟨Par.want (by kernel_rfl) (wp_storeE (.tmp 11) (.tmp 56) rfl rfl rfl rfl (hl4_12.other nr7_11_10 (hr7_11)) zero6 h9.elt.six (fun Y4_13 hl4_13 => hK.out _ _ ?_))⟩)
   refine Par.Chain.done ?_
   have d_br6_12_br7_10 : br6_12 ≠ br7_10 := by have := (let ⟨_, h, _⟩ := vbr6_12; h.lt : br6_12 < Y3_15.heap.size); omega
   have d_br6_12_br7_11 : br6_12 ≠ br7_11 := by have := (let ⟨_, h, _⟩ := vbr6_12; h.lt : br6_12 < Y3_15.heap.size); omega
   replace vbr6_12 := (hl4_13.ve d_br6_12_br7_11 (hl4_12.ve d_br6_12_br7_10 (vbr6_12.ext hX)))
   have d_br6_13_br7_10 : br6_13 ≠ br7_10 := by have := (let ⟨_, h, _⟩ := vbr6_13; h.lt : br6_13 < Y3_15.heap.size); omega
   have d_br6_13_br7_11 : br6_13 ≠ br7_11 := by have := (let ⟨_, h, _⟩ := vbr6_13; h.lt : br6_13 < Y3_15.heap.size); omega
   replace vbr6_13 := (hl4_13.ve d_br6_13_br7_11 (hl4_12.ve d_br6_13_br7_10 (vbr6_13.ext hX)))
   have vbr7_10 : VE Y4_13 M n br7_10 u3 := (hl4_13.ve (Ne.symm nr7_11_10) (hl4_12.mk' h4))
   have lb_vbr7_10 := Nat.le_trans hE.bsize lr7_10
   have vbr7_11 : VE Y4_13 M n br7_11 u4 := (hl4_13.mk' h9)
   have lb_vbr7_11 := Nat.le_trans hE.bsize lr7_11
   have d_br7_10_br7_11 : br7_10 ≠ br7_11 := (Ne.symm nr7_11_10)
   have hE' : Ext W0 Y4_13 := (hl4_13.ext (hl4_12.ext (hE.trans hX) (Nat.le_trans hE.bsize lr7_10)) (Nat.le_trans hE.bsize lr7_11))
   clear hE hX hl4_12 hl4_13 h2 h3 h4 h7 h8 h9
   have hE := hE'
   clear hE'
   go_upto_region 8 with fail
   refine Par.region_ext (by kernel_rfl) 20 [0, 0, 2, 0, 0, 0, 32, 120, 255, 0, 0, 1024, 0, 0, 0, 16384, 61951, 131071, 0, 0, 1048575, 2097151] [18, 19] (fun j f X => match j with
    | 0 => f 0 = .pointer (some ⟨g, 0, none⟩)
    | 1 => f 1 = .pointer (some ⟨q, 6, none⟩)
    | 2 => ∃ o, f 2 = EV o ∧ FE M n o y1
    | 3 => f 3 = .pointer (some ⟨g, 0, none⟩)
    | 4 => ∃ o, f 4 = EV o ∧ FE M n o u2
    | 5 => f 5 = .pointer (some ⟨q + 1, 12, none⟩)
    | 6 => ∃ o, f 6 = EV o ∧ FE M n o z2
    | 7 => ∃ o, f 7 = EV o ∧ FE M n o u5
    | 8 => ∃ o, f 8 = EV o ∧ FE M n o u6
    | 9 => f 9 = .pointer (some ⟨g, 0, none⟩)
    | 10 => f 10 = .pointer (some ⟨q + 1, 6, none⟩)
    | 11 => ∃ o, f 11 = EV o ∧ FE M n o y2
    | 12 => f 12 = .pointer (some ⟨g, 0, none⟩)
    | 13 => ∃ o, f 13 = EV o ∧ FE M n o u1
    | 14 => f 14 = .pointer (some ⟨q, 12, none⟩)
    | 15 => ∃ o, f 15 = EV o ∧ FE M n o z1
    | 16 => ∃ o, f 16 = EV o ∧ FE M n o u7
    | 17 => ∃ o, f 17 = EV o ∧ FE M n o u8
    | 18 => ∃ b, f 18 = .pointer (some ⟨b, 0, none⟩) ∧ Y4_13.heap.size ≤ b ∧ X.heap[b]? = some (.cells #[.int .u64 0, .int .u64 0, .int .u64 0, .int .u64 0, .int .u64 0, .int .u64 0] 160 (0, 0))
    | 19 => ∃ b, f 19 = .pointer (some ⟨b, 0, none⟩) ∧ Y4_13.heap.size ≤ b ∧ X.heap[b]? = some (.cells #[.int .u64 0, .int .u64 0, .int .u64 0, .int .u64 0, .int .u64 0, .int .u64 0] 160 (0, 0))
    | _ => True) (by kernel_rfl) [(57, 0), (58, 1), (59, 2), (60, 3), (61, 4), (62, 5), (63, 6), (64, 7), (65, 8), (66, 9), (67, 10), (68, 11), (69, 12), (70, 13), (71, 14), (72, 15), (73, 16), (74, 17), (12, 18), (13, 19)] (by kernel_rfl) ?_
   refine Par.v0 1 19 ?_
   refine Par.v0 2 18 ?_
   refine lE 3 17 1 (fun _ hX => BlkJ.ry ((hE.trans hX).at_ hp1) hJ1.out.x.elt.six) hJ1.out.y ?_
   refine Par.v0 4 16 ?_
   refine lX 5 15 (fun X hX => let ⟨o, hbl, ho⟩ := vbr6_13.ext hX; ⟨o, hbl.range, ho⟩) ?_
   refine Par.v0 6 14 ?_
   refine lE 7 13 5 (fun _ hX => BlkJ.rz ((hE.trans hX).at_ hp2) hJ2.out.x.elt.six hJ2.out.y.elt.six) hJ2.out.z ?_
   refine fc 8 12 3 4 6 (fun X hX _ _ h h' => fm_any X (hn.out.ext hP0' (hE.trans hX)).fr.ff h h') E_u5.out ?_
   refine fc 9 11 0 2 7 (fun X hX _ _ h h' => fm_any X (hn.out.ext hP0' (hE.trans hX)).fr.ff h h') E_u6.out ?_
   refine Par.v0 10 10 ?_
   refine Par.v0 11 9 ?_
   refine lE 12 8 10 (fun _ hX => BlkJ.ry ((hE.trans hX).at_ hp2) hJ2.out.x.elt.six) hJ2.out.y ?_
   refine Par.v0 13 7 ?_
   refine lX 14 6 (fun X hX => let ⟨o, hbl, ho⟩ := vbr6_12.ext hX; ⟨o, hbl.range, ho⟩) ?_
   refine Par.v0 15 5 ?_
   refine lE 16 4 14 (fun _ hX => BlkJ.rz ((hE.trans hX).at_ hp1) hJ1.out.x.elt.six hJ1.out.y.elt.six) hJ1.out.z ?_
   refine fc 17 3 12 13 15 (fun X hX _ _ h h' => fm_any X (hn.out.ext hP0' (hE.trans hX)).fr.ff h h') E_u7.out ?_
   refine fc 18 2 9 11 16 (fun X hX _ _ h h' => fm_any X (hn.out.ext hP0' (hE.trans hX)).fr.ff h h') E_u8.out ?_
   refine Par.al 19 1 ?_
   refine Par.al 20 0 ?_
   refine Par.AllOps.fin ⟨fun f X hX hR hal hap => ?_⟩
   obtain ⟨o2, (e2 : f 2 = _), h2⟩ := hR 2 (by decide)
   obtain ⟨o4, (e4 : f 4 = _), h4⟩ := hR 4 (by decide)
   obtain ⟨o6, (e6 : f 6 = _), h6⟩ := hR 6 (by decide)
   obtain ⟨o7, (e7 : f 7 = _), h7⟩ := hR 7 (by decide)
   obtain ⟨o8, (e8 : f 8 = _), h8⟩ := hR 8 (by decide)
   obtain ⟨o11, (e11 : f 11 = _), h11⟩ := hR 11 (by decide)
   obtain ⟨o13, (e13 : f 13 = _), h13⟩ := hR 13 (by decide)
   obtain ⟨o15, (e15 : f 15 = _), h15⟩ := hR 15 (by decide)
   obtain ⟨o16, (e16 : f 16 = _), h16⟩ := hR 16 (by decide)
   obtain ⟨o17, (e17 : f 17 = _), h17⟩ := hR 17 (by decide)
   obtain ⟨br8_18, (e18 : f 18 = _), lr8_18, hr8_18⟩ := hR 18 (by decide)
   obtain ⟨br8_19, (e19 : f 19 = _), lr8_19, hr8_19⟩ := hR 19 (by decide)
   have nr8_19_18 : br8_19 ≠ br8_18 := fun e => hap 19 18 (by decide) (by decide) rfl rfl (by decide) (by rw [e19, e18, e])
   simp only [yA, yB, yD, yE, e2, e4, e6, e7, e8, e11, e13, e15, e16, e17, e18, e19]
   clear hR hal hap e2 e4 e6 e7 e8 e11 e13 e15 e16 e17 e18 e19
   refine Par.Chain.next (fun K hK => ⟨Par.want (by kernel_rfl) (wp_storeE (.tmp 12) (.tmp 65) rfl rfl rfl rfl (hr8_18) zero6 h8.elt.six (fun Y5_20 hl5_20 => hK.out _ _ ?_))⟩)
   refine Par.Chain.next (fun K hK => ⟨Par.want (by kernel_rfl) (wp_storeE (.tmp 13) (.tmp 74) rfl rfl rfl rfl (hl5_20.other nr8_19_18 (hr8_19)) zero6 h17.elt.six (fun Y5_21 hl5_21 => hK.out _ _ ?_))⟩)
   refine Par.Chain.done ?_
   have d_br6_12_br8_18 : br6_12 ≠ br8_18 := by have := (let ⟨_, h, _⟩ := vbr6_12; h.lt : br6_12 < Y4_13.heap.size); omega
   have d_br6_12_br8_19 : br6_12 ≠ br8_19 := by have := (let ⟨_, h, _⟩ := vbr6_12; h.lt : br6_12 < Y4_13.heap.size); omega
   replace vbr6_12 := (hl5_21.ve d_br6_12_br8_19 (hl5_20.ve d_br6_12_br8_18 (vbr6_12.ext hX)))
   have d_br6_13_br8_18 : br6_13 ≠ br8_18 := by have := (let ⟨_, h, _⟩ := vbr6_13; h.lt : br6_13 < Y4_13.heap.size); omega
   have d_br6_13_br8_19 : br6_13 ≠ br8_19 := by have := (let ⟨_, h, _⟩ := vbr6_13; h.lt : br6_13 < Y4_13.heap.size); omega
   replace vbr6_13 := (hl5_21.ve d_br6_13_br8_19 (hl5_20.ve d_br6_13_br8_18 (vbr6_13.ext hX)))
   have d_br7_10_br8_18 : br7_10 ≠ br8_18 := by have := (let ⟨_, h, _⟩ := vbr7_10; h.lt : br7_10 < Y4_13.heap.size); omega
   have d_br7_10_br8_19 : br7_10 ≠ br8_19 := by have := (let ⟨_, h, _⟩ := vbr7_10; h.lt : br7_10 < Y4_13.heap.size); omega
   replace vbr7_10 := (hl5_21.ve d_br7_10_br8_19 (hl5_20.ve d_br7_10_br8_18 (vbr7_10.ext hX)))
   have d_br7_11_br8_18 : br7_11 ≠ br8_18 := by have := (let ⟨_, h, _⟩ := vbr7_11; h.lt : br7_11 < Y4_13.heap.size); omega
   have d_br7_11_br8_19 : br7_11 ≠ br8_19 := by have := (let ⟨_, h, _⟩ := vbr7_11; h.lt : br7_11 < Y4_13.heap.size); omega
   replace vbr7_11 := (hl5_21.ve d_br7_11_br8_19 (hl5_20.ve d_br7_11_br8_18 (vbr7_11.ext hX)))
   have vbr8_18 : VE Y5_21 M n br8_18 u6 := (hl5_21.ve (Ne.symm nr8_19_18) (hl5_20.mk' h8))
   have lb_vbr8_18 := Nat.le_trans hE.bsize lr8_18
   have vbr8_19 : VE Y5_21 M n br8_19 u8 := (hl5_21.mk' h17)
   have lb_vbr8_19 := Nat.le_trans hE.bsize lr8_19
   have d_br8_18_br8_19 : br8_18 ≠ br8_19 := (Ne.symm nr8_19_18)
   have hE' : Ext W0 Y5_21 := (hl5_21.ext (hl5_20.ext (hE.trans hX) (Nat.le_trans hE.bsize lr8_18)) (Nat.le_trans hE.bsize lr8_19))
   clear hE hX hl5_20 hl5_21 h2 h4 h6 h7 h8 h11 h13 h15 h16 h17
   have hE := hE'
   clear hE'
   go_upto_region 9 with fail
   refine Par.region_ext (by kernel_rfl) 10 [0, 0, 0, 7, 0, 0, 0, 127, 0, 0, 1023, 2047] [8, 9] (fun j f X => match j with
    | 0 => f 0 = .pointer (some ⟨g, 0, none⟩)
    | 1 => ∃ o, f 1 = EV o ∧ FE M n o u4
    | 2 => ∃ o, f 2 = EV o ∧ FE M n o u3
    | 3 => ∃ o, f 3 = EV o ∧ FE M n o u9
    | 4 => f 4 = .pointer (some ⟨g, 0, none⟩)
    | 5 => ∃ o, f 5 = EV o ∧ FE M n o u8
    | 6 => ∃ o, f 6 = EV o ∧ FE M n o u6
    | 7 => ∃ o, f 7 = EV o ∧ FE M n o u10
    | 8 => ∃ b, f 8 = .pointer (some ⟨b, 0, none⟩) ∧ Y5_21.heap.size ≤ b ∧ X.heap[b]? = some (.cells #[.int .u64 0, .int .u64 0, .int .u64 0, .int .u64 0, .int .u64 0, .int .u64 0] 160 (0, 0))
    | 9 => ∃ b, f 9 = .pointer (some ⟨b, 0, none⟩) ∧ Y5_21.heap.size ≤ b ∧ X.heap[b]? = some (.cells #[.int .u64 0, .int .u64 0, .int .u64 0, .int .u64 0, .int .u64 0, .int .u64 0] 160 (0, 0))
    | _ => True) (by kernel_rfl) [(75, 0), (76, 1), (77, 2), (78, 3), (79, 4), (80, 5), (81, 6), (82, 7), (14, 8), (15, 9)] (by kernel_rfl) ?_
   refine Par.v0 1 9 ?_
   refine lX 2 8 (fun X hX => let ⟨o, hbl, ho⟩ := vbr7_11.ext hX; ⟨o, hbl.range, ho⟩) ?_
   refine lX 3 7 (fun X hX => let ⟨o, hbl, ho⟩ := vbr7_10.ext hX; ⟨o, hbl.range, ho⟩) ?_
   refine fc 4 6 0 1 2 (fun X hX _ _ h h' => fs_any X (hn.out.ext hP0' (hE.trans hX)).fr.ff h h') E_u9.out ?_
   refine Par.v0 5 5 ?_
   refine lX 6 4 (fun X hX => let ⟨o, hbl, ho⟩ := vbr8_19.ext hX; ⟨o, hbl.range, ho⟩) ?_
   refine lX 7 3 (fun X hX => let ⟨o, hbl, ho⟩ := vbr8_18.ext hX; ⟨o, hbl.range, ho⟩) ?_
   refine fc 8 2 4 5 6 (fun X hX _ _ h h' => fs_any X (hn.out.ext hP0' (hE.trans hX)).fr.ff h h') E_u10.out ?_
   refine Par.al 9 1 ?_
   refine Par.al 10 0 ?_
   refine Par.AllOps.fin ⟨fun f X hX hR hal hap => ?_⟩
   obtain ⟨o1, (e1 : f 1 = _), h1⟩ := hR 1 (by decide)
   obtain ⟨o2, (e2 : f 2 = _), h2⟩ := hR 2 (by decide)
   obtain ⟨o3, (e3 : f 3 = _), h3⟩ := hR 3 (by decide)
   obtain ⟨o5, (e5 : f 5 = _), h5⟩ := hR 5 (by decide)
   obtain ⟨o6, (e6 : f 6 = _), h6⟩ := hR 6 (by decide)
   obtain ⟨o7, (e7 : f 7 = _), h7⟩ := hR 7 (by decide)
   obtain ⟨br9_8, (e8 : f 8 = _), lr9_8, hr9_8⟩ := hR 8 (by decide)
   obtain ⟨br9_9, (e9 : f 9 = _), lr9_9, hr9_9⟩ := hR 9 (by decide)
   have nr9_9_8 : br9_9 ≠ br9_8 := fun e => hap 9 8 (by decide) (by decide) rfl rfl (by decide) (by rw [e9, e8, e])
   simp only [yA, yB, yD, yE, e1, e2, e3, e5, e6, e7, e8, e9]
   clear hR hal hap e1 e2 e3 e5 e6 e7 e8 e9
   refine Par.Chain.next (fun K hK => ⟨Par.want (by kernel_rfl) (wp_storeE (.tmp 14) (.tmp 78) rfl rfl rfl rfl (hr9_8) zero6 h3.elt.six (fun Y6_10 hl6_10 => hK.out _ _ ?_))⟩)
   refine Par.Chain.next (fun K hK => ⟨Par.want (by kernel_rfl) (wp_storeE (.tmp 15) (.tmp 82) rfl rfl rfl rfl (hl6_10.other nr9_9_8 (hr9_9)) zero6 h7.elt.six (fun Y6_11 hl6_11 => hK.out _ _ ?_))⟩)
   refine Par.Chain.done ?_
   have d_br6_12_br9_8 : br6_12 ≠ br9_8 := by have := (let ⟨_, h, _⟩ := vbr6_12; h.lt : br6_12 < Y5_21.heap.size); omega
   have d_br6_12_br9_9 : br6_12 ≠ br9_9 := by have := (let ⟨_, h, _⟩ := vbr6_12; h.lt : br6_12 < Y5_21.heap.size); omega
   replace vbr6_12 := (hl6_11.ve d_br6_12_br9_9 (hl6_10.ve d_br6_12_br9_8 (vbr6_12.ext hX)))
   have d_br6_13_br9_8 : br6_13 ≠ br9_8 := by have := (let ⟨_, h, _⟩ := vbr6_13; h.lt : br6_13 < Y5_21.heap.size); omega
   have d_br6_13_br9_9 : br6_13 ≠ br9_9 := by have := (let ⟨_, h, _⟩ := vbr6_13; h.lt : br6_13 < Y5_21.heap.size); omega
   replace vbr6_13 := (hl6_11.ve d_br6_13_br9_9 (hl6_10.ve d_br6_13_br9_8 (vbr6_13.ext hX)))
   have d_br7_10_br9_8 : br7_10 ≠ br9_8 := by have := (let ⟨_, h, _⟩ := vbr7_10; h.lt : br7_10 < Y5_21.heap.size); omega
   have d_br7_10_br9_9 : br7_10 ≠ br9_9 := by have := (let ⟨_, h, _⟩ := vbr7_10; h.lt : br7_10 < Y5_21.heap.size); omega
   replace vbr7_10 := (hl6_11.ve d_br7_10_br9_9 (hl6_10.ve d_br7_10_br9_8 (vbr7_10.ext hX)))
   have d_br7_11_br9_8 : br7_11 ≠ br9_8 := by have := (let ⟨_, h, _⟩ := vbr7_11; h.lt : br7_11 < Y5_21.heap.size); omega
   have d_br7_11_br9_9 : br7_11 ≠ br9_9 := by have := (let ⟨_, h, _⟩ := vbr7_11; h.lt : br7_11 < Y5_21.heap.size); omega
   replace vbr7_11 := (hl6_11.ve d_br7_11_br9_9 (hl6_10.ve d_br7_11_br9_8 (vbr7_11.ext hX)))
   have d_br8_18_br9_8 : br8_18 ≠ br9_8 := by have := (let ⟨_, h, _⟩ := vbr8_18; h.lt : br8_18 < Y5_21.heap.size); omega
   have d_br8_18_br9_9 : br8_18 ≠ br9_9 := by have := (let ⟨_, h, _⟩ := vbr8_18; h.lt : br8_18 < Y5_21.heap.size); omega
   replace vbr8_18 := (hl6_11.ve d_br8_18_br9_9 (hl6_10.ve d_br8_18_br9_8 (vbr8_18.ext hX)))
   have d_br8_19_br9_8 : br8_19 ≠ br9_8 := by have := (let ⟨_, h, _⟩ := vbr8_19; h.lt : br8_19 < Y5_21.heap.size); omega
   have d_br8_19_br9_9 : br8_19 ≠ br9_9 := by have := (let ⟨_, h, _⟩ := vbr8_19; h.lt : br8_19 < Y5_21.heap.size); omega
   replace vbr8_19 := (hl6_11.ve d_br8_19_br9_9 (hl6_10.ve d_br8_19_br9_8 (vbr8_19.ext hX)))
   have vbr9_8 : VE Y6_11 M n br9_8 u9 := (hl6_11.ve (Ne.symm nr9_9_8) (hl6_10.mk' h3))
   have lb_vbr9_8 := Nat.le_trans hE.bsize lr9_8
   have vbr9_9 : VE Y6_11 M n br9_9 u10 := (hl6_11.mk' h7)
   have lb_vbr9_9 := Nat.le_trans hE.bsize lr9_9
   have d_br9_8_br9_9 : br9_8 ≠ br9_9 := (Ne.symm nr9_9_8)
   have hE' : Ext W0 Y6_11 := (hl6_11.ext (hl6_10.ext (hE.trans hX) (Nat.le_trans hE.bsize lr9_8)) (Nat.le_trans hE.bsize lr9_9))
   clear hE hX hl6_10 hl6_11 h1 h2 h3 h5 h6 h7
   have hE := hE'
   clear hE'
   by_cases hh : u9 % M = 0
   · by_cases hr : u10 % M = 0
     · have hhn := Lib.hid hh
       have hrn := Lib.hid hr
       obtain rfl : res = dblP M x1 y1 z1 := by rw [← Hq0.out, hres.out, if_pos hh, if_pos hr]
       clear hh hr
       go_upto_region 10 with fail
       refine Par.region_txt 2 [0, 1] [] (fun j f X => match j with
        | 0 => ∃ o, f 0 = EV o ∧ FE M n o u9
        | 1 => f 1 = .bool true
        | _ => True) (by kernel_rfl) [(83, 0), (84, 1)] (by kernel_rfl) ?_
       refine lX 1 1 (fun X hX => let ⟨o, hbl, ho⟩ := vbr9_8.ext hX; ⟨o, hbl.range, ho⟩) ?_
       refine Par.c0 2 0 (fun f => #[f 0]) (F' := 177) (fun f X hX hR => ?_) ?_
       · obtain ⟨o0, (e0 : f 0 = _), h0⟩ := hR.out 0 rfl
         simp only [e0]
         refine (zero_any o0 X h0.elt.six).mono ?_
         rintro e w2 ⟨rfl, hB⟩
         rw [show decide (o0 = [0, 0, 0, 0, 0, 0]) = true by rw [decide_eq_decide.2 (h0.zero_iff (hn.out.ext hP0' (hE.trans hX)).fr.ff)]; exact decide_eq_true hhn.out]
         exact ⟨(.bool true), rfl, hB, fun _ _ => rfl⟩
       refine Par.AllOps.fin ⟨fun f X hX hR hal hap => ?_⟩
       obtain ⟨o0, (e0 : f 0 = _), h0⟩ := hR 0 (by decide)
       have e1 : f 1 = _ := hR 1 (by decide)
       simp only [yA, yB, yD, yE, e0, e1]
       clear hR hal hap e0 e1
       refine Par.Chain.done ?_
       replace vbr6_12 := vbr6_12.ext hX
       replace vbr6_13 := vbr6_13.ext hX
       replace vbr7_10 := vbr7_10.ext hX
       replace vbr7_11 := vbr7_11.ext hX
       replace vbr8_18 := vbr8_18.ext hX
       replace vbr8_19 := vbr8_19.ext hX
       replace vbr9_8 := vbr9_8.ext hX
       replace vbr9_9 := vbr9_9.ext hX
       replace hE := hE.trans hX
       clear hX
       rename World => X7_
       go_upto_region 11 with fail
       refine Par.region_txt 2 [0, 1] [] (fun j f X => match j with
        | 0 => ∃ o, f 0 = EV o ∧ FE M n o u10
        | 1 => f 1 = .bool true
        | _ => True) (by kernel_rfl) [(85, 0), (86, 1)] (by kernel_rfl) ?_
       refine lX 1 1 (fun X hX => let ⟨o, hbl, ho⟩ := vbr9_9.ext hX; ⟨o, hbl.range, ho⟩) ?_
       refine Par.c0 2 0 (fun f => #[f 0]) (F' := 177) (fun f X hX hR => ?_) ?_
       · obtain ⟨o0, (e0 : f 0 = _), h0⟩ := hR.out 0 rfl
         simp only [e0]
         refine (zero_any o0 X h0.elt.six).mono ?_
         rintro e w2 ⟨rfl, hB⟩
         rw [show decide (o0 = [0, 0, 0, 0, 0, 0]) = true by rw [decide_eq_decide.2 (h0.zero_iff (hn.out.ext hP0' (hE.trans hX)).fr.ff)]; exact decide_eq_true hrn.out]
         exact ⟨(.bool true), rfl, hB, fun _ _ => rfl⟩
       refine Par.AllOps.fin ⟨fun f X hX hR hal hap => ?_⟩
       obtain ⟨o0, (e0 : f 0 = _), h0⟩ := hR 0 (by decide)
       have e1 : f 1 = _ := hR 1 (by decide)
       simp only [yA, yB, yD, yE, e0, e1]
       clear hR hal hap e0 e1
       refine Par.Chain.done ?_
       replace vbr6_12 := vbr6_12.ext hX
       replace vbr6_13 := vbr6_13.ext hX
       replace vbr7_10 := vbr7_10.ext hX
       replace vbr7_11 := vbr7_11.ext hX
       replace vbr8_18 := vbr8_18.ext hX
       replace vbr8_19 := vbr8_19.ext hX
       replace vbr9_8 := vbr9_8.ext hX
       replace vbr9_9 := vbr9_9.ext hX
       replace hE := hE.trans hX
       clear hX
       rename World => X8_
       go_upto_region 12 with fail
       have hb1 := hE.at_ hrb
       refine Par.region_txt 3 [0, 0, 3, 7] [] (fun j f X => match j with
        | 0 => f 0 = .pointer (some ⟨k, 0, none⟩)
        | 1 => f 1 = JV l1x l1y l1z
        | 2 => ∃ ox oy oz, f 2 = JV ox oy oz ∧ FJ M n ox oy oz (dblP M x1 y1 z1).1 (dblP M x1 y1 z1).2.1 (dblP M x1 y1 z1).2.2
        | _ => True) (by kernel_rfl) [(87, 0), (88, 1), (89, 2)] (by kernel_rfl) ?_
       refine Par.v0 1 2 ?_
       refine Par.S 2 1 [(87, 0)] (fun f X hX hR K hK => ?_) ?_
       · simp only [yA, yB, yC, yD, yE]
         refine ⟨Par.want (by kernel_rfl) (wp_loadV (v := JV l1x l1y l1z) 199 (.tmp 4) rfl rfl ((hE.trans hX).at_ hp1) Tryz.underlying199 rfl (by rw [hJ1.out.sz]; exact infoJ) rfl ?_)⟩
         exact hK.out _ (JV l1x l1y l1z) _ (by simp only [yA, yB, yC, yD, yE]) (Ext.refl _) trivial (fun _ _ => rfl)
       refine Par.c0 3 0 (fun f => #[f 0, f 1]) (F' := 182) (fun f X hX hR => ?_) ?_
       · have e0 : f 0 = _ := hR.out 0 rfl
         have e1 : f 1 = _ := hR.out 1 rfl
         simp only [e0, e1]
         refine (double_any X (hn.out.ext hP0' (hE.trans hX)) (fun b hb => Nat.lt_of_lt_of_le (hP0' b hb) (hE.trans hX).bsize) hJ1.out).mono ?_
         rintro e w2 ⟨ox, oy, oz, rfl, hf, hB⟩
         exact ⟨(JV ox oy oz), rfl, hB, fun Y hY => ⟨ox, oy, oz, rfl, hf⟩⟩
       refine Par.AllOps.fin ⟨fun f X hX hR hal hap => ?_⟩
       obtain ⟨ox, oy, oz, (e2 : f 2 = _), f2⟩ := hR 2 (by decide)
       simp only [yA, yB, yD, yE, e2]
       clear hR hal hap e2
       refine Par.Chain.next (fun K hK => ⟨Par.want (by kernel_rfl) (wp_storeJ (x := ox) (y := oy) (z := oz) (.tmp 6) (.tmp 89) rfl rfl rfl rfl (hX.at_ hb1) rfl f2.x.elt.six f2.y.elt.six f2.z.elt.six (fun Y hY1 hY2 hY3 => hK.out _ _ ?_))⟩)
       refine Par.Chain.done ?_
       go_wp2
       exact end_j rfl rfl rfl hY1 f2.x.elt.six f2.y.elt.six f2.z.elt.six ⟨_, _, _, rfl, f2, hY2.ext (HE0.out.trans (hE.trans hX)) (by have := Hq.out; omega)⟩
     · have hhn := Lib.hid hh
       have hrn := Lib.hid hr
       obtain rfl : res = (1, 1, 0) := by rw [← Hq0.out, hres.out, if_pos hh, if_neg hr]
       clear hh hr
       go_upto_region 10 with fail
       refine Par.region_txt 2 [0, 1] [] (fun j f X => match j with
        | 0 => ∃ o, f 0 = EV o ∧ FE M n o u9
        | 1 => f 1 = .bool true
        | _ => True) (by kernel_rfl) [(83, 0), (84, 1)] (by kernel_rfl) ?_
       refine lX 1 1 (fun X hX => let ⟨o, hbl, ho⟩ := vbr9_8.ext hX; ⟨o, hbl.range, ho⟩) ?_
       refine Par.c0 2 0 (fun f => #[f 0]) (F' := 177) (fun f X hX hR => ?_) ?_
       · obtain ⟨o0, (e0 : f 0 = _), h0⟩ := hR.out 0 rfl
         simp only [e0]
         refine (zero_any o0 X h0.elt.six).mono ?_
         rintro e w2 ⟨rfl, hB⟩
         rw [show decide (o0 = [0, 0, 0, 0, 0, 0]) = true by rw [decide_eq_decide.2 (h0.zero_iff (hn.out.ext hP0' (hE.trans hX)).fr.ff)]; exact decide_eq_true hhn.out]
         exact ⟨(.bool true), rfl, hB, fun _ _ => rfl⟩
       refine Par.AllOps.fin ⟨fun f X hX hR hal hap => ?_⟩
       obtain ⟨o0, (e0 : f 0 = _), h0⟩ := hR 0 (by decide)
       have e1 : f 1 = _ := hR 1 (by decide)
       simp only [yA, yB, yD, yE, e0, e1]
       clear hR hal hap e0 e1
       refine Par.Chain.done ?_
       replace vbr6_12 := vbr6_12.ext hX
       replace vbr6_13 := vbr6_13.ext hX
       replace vbr7_10 := vbr7_10.ext hX
       replace vbr7_11 := vbr7_11.ext hX
       replace vbr8_18 := vbr8_18.ext hX
       replace vbr8_19 := vbr8_19.ext hX
       replace vbr9_8 := vbr9_8.ext hX
       replace vbr9_9 := vbr9_9.ext hX
       replace hE := hE.trans hX
       clear hX
       rename World => X7_
       go_upto_region 11 with fail
       refine Par.region_txt 2 [0, 1] [] (fun j f X => match j with
        | 0 => ∃ o, f 0 = EV o ∧ FE M n o u10
        | 1 => f 1 = .bool false
        | _ => True) (by kernel_rfl) [(85, 0), (86, 1)] (by kernel_rfl) ?_
       refine lX 1 1 (fun X hX => let ⟨o, hbl, ho⟩ := vbr9_9.ext hX; ⟨o, hbl.range, ho⟩) ?_
       refine Par.c0 2 0 (fun f => #[f 0]) (F' := 177) (fun f X hX hR => ?_) ?_
       · obtain ⟨o0, (e0 : f 0 = _), h0⟩ := hR.out 0 rfl
         simp only [e0]
         refine (zero_any o0 X h0.elt.six).mono ?_
         rintro e w2 ⟨rfl, hB⟩
         rw [show decide (o0 = [0, 0, 0, 0, 0, 0]) = false by rw [decide_eq_decide.2 (h0.zero_iff (hn.out.ext hP0' (hE.trans hX)).fr.ff)]; exact decide_eq_false hrn.out]
         exact ⟨(.bool false), rfl, hB, fun _ _ => rfl⟩
       refine Par.AllOps.fin ⟨fun f X hX hR hal hap => ?_⟩
       obtain ⟨o0, (e0 : f 0 = _), h0⟩ := hR 0 (by decide)
       have e1 : f 1 = _ := hR 1 (by decide)
       simp only [yA, yB, yD, yE, e0, e1]
       clear hR hal hap e0 e1
       refine Par.Chain.done ?_
       replace vbr6_12 := vbr6_12.ext hX
       replace vbr6_13 := vbr6_13.ext hX
       replace vbr7_10 := vbr7_10.ext hX
       replace vbr7_11 := vbr7_11.ext hX
       replace vbr8_18 := vbr8_18.ext hX
       replace vbr8_19 := vbr8_19.ext hX
       replace vbr9_8 := vbr9_8.ext hX
       replace vbr9_9 := vbr9_9.ext hX
       replace hE := hE.trans hX
       clear hX
       rename World => X8_
       go_upto_region 13 with fail
       have hb1 := hE.at_ hrb
       refine Par.region_txt 3 [0, 0, 3, 7] [] (fun j f X => match j with
        | 0 => f 0 = .pointer (some ⟨k, 0, none⟩)
        | 1 => f 1 = infV
        | 2 => ∃ ox oy oz, f 2 = JV ox oy oz ∧ FJ M n ox oy oz 1 1 0
        | _ => True) (by kernel_rfl) [(90, 0), (91, 1), (92, 2)] (by kernel_rfl) ?_
       refine Par.v0 1 2 ?_
       refine Par.c0 2 1 (fun _ => #[]) (F' := 137) (fun f X hX hR => ?_) ?_
       · refine (none_any X).mono ?_
         rintro e w2 ⟨rfl, hB⟩
         exact ⟨infV, rfl, hB, fun _ _ => rfl⟩
       refine Par.c0 3 0 (fun f => #[f 0, f 1]) (F' := 179) (fun f X hX hR => ?_) ?_
       · have e0 : f 0 = _ := hR.out 0 rfl
         have e1 : f 1 = _ := hR.out 1 rfl
         simp only [e0, e1]
         refine (up_any (fun _ => False) (fun _ => False) none none 0 0 [] [] true X (hn.out.ext hP0' (hE.trans hX)) (fun b hb => Nat.lt_of_lt_of_le (hP0' b hb) (hE.trans hX).bsize) (RN.nil_ _ _) (RN.nil_ _ _) (fun _ h => h.elim) (fun _ h => h.elim) (fun h => by cases h) (fun h => by cases h)).mono ?_
         rintro e w2 ⟨ox, oy, oz, rfl, hf, hB⟩
         exact ⟨(JV ox oy oz), rfl, hB, fun Y hY => ⟨ox, oy, oz, rfl, hf⟩⟩
       refine Par.AllOps.fin ⟨fun f X hX hR hal hap => ?_⟩
       obtain ⟨ox, oy, oz, (e2 : f 2 = _), f2⟩ := hR 2 (by decide)
       simp only [yA, yB, yD, yE, e2]
       clear hR hal hap e2
       refine Par.Chain.next (fun K hK => ⟨Par.want (by kernel_rfl) (wp_storeJ (x := ox) (y := oy) (z := oz) (.tmp 6) (.tmp 92) rfl rfl rfl rfl (hX.at_ hb1) rfl f2.x.elt.six f2.y.elt.six f2.z.elt.six (fun Y hY1 hY2 hY3 => hK.out _ _ ?_))⟩)
       refine Par.Chain.done ?_
       go_wp2
       exact end_j rfl rfl rfl hY1 f2.x.elt.six f2.y.elt.six f2.z.elt.six ⟨_, _, _, rfl, f2, hY2.ext (HE0.out.trans (hE.trans hX)) (by have := Hq.out; omega)⟩
   · have hhn := Lib.hid hh
     obtain rfl : res = (u17, u21, u23) := by rw [← Hq0.out, hres.out, if_neg hh]
     clear hh
     go_upto_region 10 with fail
     refine Par.region_txt 2 [0, 1] [] (fun j f X => match j with
      | 0 => ∃ o, f 0 = EV o ∧ FE M n o u9
      | 1 => f 1 = .bool false
      | _ => True) (by kernel_rfl) [(83, 0), (84, 1)] (by kernel_rfl) ?_
     refine lX 1 1 (fun X hX => let ⟨o, hbl, ho⟩ := vbr9_8.ext hX; ⟨o, hbl.range, ho⟩) ?_
     refine Par.c0 2 0 (fun f => #[f 0]) (F' := 177) (fun f X hX hR => ?_) ?_
     · obtain ⟨o0, (e0 : f 0 = _), h0⟩ := hR.out 0 rfl
       simp only [e0]
       refine (zero_any o0 X h0.elt.six).mono ?_
       rintro e w2 ⟨rfl, hB⟩
       rw [show decide (o0 = [0, 0, 0, 0, 0, 0]) = false by rw [decide_eq_decide.2 (h0.zero_iff (hn.out.ext hP0' (hE.trans hX)).fr.ff)]; exact decide_eq_false hhn.out]
       exact ⟨(.bool false), rfl, hB, fun _ _ => rfl⟩
     refine Par.AllOps.fin ⟨fun f X hX hR hal hap => ?_⟩
     obtain ⟨o0, (e0 : f 0 = _), h0⟩ := hR 0 (by decide)
     have e1 : f 1 = _ := hR 1 (by decide)
     simp only [yA, yB, yD, yE, e0, e1]
     clear hR hal hap e0 e1
     refine Par.Chain.done ?_
     replace vbr6_12 := vbr6_12.ext hX
     replace vbr6_13 := vbr6_13.ext hX
     replace vbr7_10 := vbr7_10.ext hX
     replace vbr7_11 := vbr7_11.ext hX
     replace vbr8_18 := vbr8_18.ext hX
     replace vbr8_19 := vbr8_19.ext hX
     replace vbr9_8 := vbr9_8.ext hX
     replace vbr9_9 := vbr9_9.ext hX
     replace hE := hE.trans hX
     clear hX
     rename World => X7_
     go_upto_region 14 with fail
     refine Par.region_txt 5 [0, 0, 0, 7, 0, 31] [4] (fun j f X => match j with
      | 0 => f 0 = .pointer (some ⟨g, 0, none⟩)
      | 1 => ∃ o, f 1 = EV o ∧ FE M n o u9
      | 2 => ∃ o, f 2 = EV o ∧ FE M n o u9
      | 3 => ∃ o, f 3 = EV o ∧ FE M n o u11
      | 4 => ∃ b, f 4 = .pointer (some ⟨b, 0, none⟩) ∧ X7_.heap.size ≤ b ∧ X.heap[b]? = some (.cells #[.int .u64 0, .int .u64 0, .int .u64 0, .int .u64 0, .int .u64 0, .int .u64 0] 160 (0, 0))
      | _ => True) (by kernel_rfl) [(93, 0), (94, 1), (95, 2), (96, 3), (16, 4)] (by kernel_rfl) ?_
     refine Par.v0 1 4 ?_
     refine lX 2 3 (fun X hX => let ⟨o, hbl, ho⟩ := vbr9_8.ext hX; ⟨o, hbl.range, ho⟩) ?_
     refine lX 3 2 (fun X hX => let ⟨o, hbl, ho⟩ := vbr9_8.ext hX; ⟨o, hbl.range, ho⟩) ?_
     refine fc 4 1 0 1 2 (fun X hX _ _ h h' => fm_any X (hn.out.ext hP0' (hE.trans hX)).fr.ff h h') E_u11.out ?_
     refine Par.al 5 0 ?_
     refine Par.AllOps.fin ⟨fun f X hX hR hal hap => ?_⟩
     obtain ⟨o1, (e1 : f 1 = _), h1⟩ := hR 1 (by decide)
     obtain ⟨o2, (e2 : f 2 = _), h2⟩ := hR 2 (by decide)
     obtain ⟨o3, (e3 : f 3 = _), h3⟩ := hR 3 (by decide)
     obtain ⟨br14_4, (e4 : f 4 = _), lr14_4, hr14_4⟩ := hR 4 (by decide)
     simp only [yA, yB, yD, yE, e1, e2, e3, e4]
     clear hR hal hap e1 e2 e3 e4
     refine Par.Chain.next (fun K hK => ⟨Par.want (by kernel_rfl) (wp_storeE (.tmp 16) (.tmp 96) rfl rfl rfl rfl (hr14_4) zero6 h3.elt.six (fun Y8_5 hl8_5 => hK.out _ _ ?_))⟩)
     refine Par.Chain.done ?_
     have d_br6_12_br14_4 : br6_12 ≠ br14_4 := by have := (let ⟨_, h, _⟩ := vbr6_12; h.lt : br6_12 < X7_.heap.size); omega
     replace vbr6_12 := (hl8_5.ve d_br6_12_br14_4 (vbr6_12.ext hX))
     have d_br6_13_br14_4 : br6_13 ≠ br14_4 := by have := (let ⟨_, h, _⟩ := vbr6_13; h.lt : br6_13 < X7_.heap.size); omega
     replace vbr6_13 := (hl8_5.ve d_br6_13_br14_4 (vbr6_13.ext hX))
     have d_br7_10_br14_4 : br7_10 ≠ br14_4 := by have := (let ⟨_, h, _⟩ := vbr7_10; h.lt : br7_10 < X7_.heap.size); omega
     replace vbr7_10 := (hl8_5.ve d_br7_10_br14_4 (vbr7_10.ext hX))
     have d_br7_11_br14_4 : br7_11 ≠ br14_4 := by have := (let ⟨_, h, _⟩ := vbr7_11; h.lt : br7_11 < X7_.heap.size); omega
     replace vbr7_11 := (hl8_5.ve d_br7_11_br14_4 (vbr7_11.ext hX))
     have d_br8_18_br14_4 : br8_18 ≠ br14_4 := by have := (let ⟨_, h, _⟩ := vbr8_18; h.lt : br8_18 < X7_.heap.size); omega
     replace vbr8_18 := (hl8_5.ve d_br8_18_br14_4 (vbr8_18.ext hX))
     have d_br8_19_br14_4 : br8_19 ≠ br14_4 := by have := (let ⟨_, h, _⟩ := vbr8_19; h.lt : br8_19 < X7_.heap.size); omega
     replace vbr8_19 := (hl8_5.ve d_br8_19_br14_4 (vbr8_19.ext hX))
     have d_br9_8_br14_4 : br9_8 ≠ br14_4 := by have := (let ⟨_, h, _⟩ := vbr9_8; h.lt : br9_8 < X7_.heap.size); omega
     replace vbr9_8 := (hl8_5.ve d_br9_8_br14_4 (vbr9_8.ext hX))
     have d_br9_9_br14_4 : br9_9 ≠ br14_4 := by have := (let ⟨_, h, _⟩ := vbr9_9; h.lt : br9_9 < X7_.heap.size); omega
     replace vbr9_9 := (hl8_5.ve d_br9_9_br14_4 (vbr9_9.ext hX))
     have vbr14_4 : VE Y8_5 M n br14_4 u11 := (hl8_5.mk' h3)
     have lb_vbr14_4 := Nat.le_trans hE.bsize lr14_4
     have hE' : Ext W0 Y8_5 := (hl8_5.ext (hE.trans hX) (Nat.le_trans hE.bsize lr14_4))
     clear hE hX hl8_5 h1 h2 h3
     have hE := hE'
     clear hE'
     go_upto_region 15 with fail
     refine Par.region_ext (by kernel_rfl) 10 [0, 0, 0, 7, 0, 0, 0, 127, 0, 0, 1023, 2047] [8, 9] (fun j f X => match j with
      | 0 => f 0 = .pointer (some ⟨g, 0, none⟩)
      | 1 => ∃ o, f 1 = EV o ∧ FE M n o u11
      | 2 => ∃ o, f 2 = EV o ∧ FE M n o u9
      | 3 => ∃ o, f 3 = EV o ∧ FE M n o u12
      | 4 => f 4 = .pointer (some ⟨g, 0, none⟩)
      | 5 => ∃ o, f 5 = EV o ∧ FE M n o u3
      | 6 => ∃ o, f 6 = EV o ∧ FE M n o u11
      | 7 => ∃ o, f 7 = EV o ∧ FE M n o u13
      | 8 => ∃ b, f 8 = .pointer (some ⟨b, 0, none⟩) ∧ Y8_5.heap.size ≤ b ∧ X.heap[b]? = some (.cells #[.int .u64 0, .int .u64 0, .int .u64 0, .int .u64 0, .int .u64 0, .int .u64 0] 160 (0, 0))
      | 9 => ∃ b, f 9 = .pointer (some ⟨b, 0, none⟩) ∧ Y8_5.heap.size ≤ b ∧ X.heap[b]? = some (.cells #[.int .u64 0, .int .u64 0, .int .u64 0, .int .u64 0, .int .u64 0, .int .u64 0] 160 (0, 0))
      | _ => True) (by kernel_rfl) [(97, 0), (98, 1), (99, 2), (100, 3), (101, 4), (102, 5), (103, 6), (104, 7), (17, 8), (18, 9)] (by kernel_rfl) ?_
     refine Par.v0 1 9 ?_
     refine lX 2 8 (fun X hX => let ⟨o, hbl, ho⟩ := vbr14_4.ext hX; ⟨o, hbl.range, ho⟩) ?_
     refine lX 3 7 (fun X hX => let ⟨o, hbl, ho⟩ := vbr9_8.ext hX; ⟨o, hbl.range, ho⟩) ?_
     refine fc 4 6 0 1 2 (fun X hX _ _ h h' => fm_any X (hn.out.ext hP0' (hE.trans hX)).fr.ff h h') E_u12.out ?_
     refine Par.v0 5 5 ?_
     refine lX 6 4 (fun X hX => let ⟨o, hbl, ho⟩ := vbr7_10.ext hX; ⟨o, hbl.range, ho⟩) ?_
     refine lX 7 3 (fun X hX => let ⟨o, hbl, ho⟩ := vbr14_4.ext hX; ⟨o, hbl.range, ho⟩) ?_
     refine fc 8 2 4 5 6 (fun X hX _ _ h h' => fm_any X (hn.out.ext hP0' (hE.trans hX)).fr.ff h h') E_u13.out ?_
     refine Par.al 9 1 ?_
     refine Par.al 10 0 ?_
     refine Par.AllOps.fin ⟨fun f X hX hR hal hap => ?_⟩
     obtain ⟨o1, (e1 : f 1 = _), h1⟩ := hR 1 (by decide)
     obtain ⟨o2, (e2 : f 2 = _), h2⟩ := hR 2 (by decide)
     obtain ⟨o3, (e3 : f 3 = _), h3⟩ := hR 3 (by decide)
     obtain ⟨o5, (e5 : f 5 = _), h5⟩ := hR 5 (by decide)
     obtain ⟨o6, (e6 : f 6 = _), h6⟩ := hR 6 (by decide)
     obtain ⟨o7, (e7 : f 7 = _), h7⟩ := hR 7 (by decide)
     obtain ⟨br15_8, (e8 : f 8 = _), lr15_8, hr15_8⟩ := hR 8 (by decide)
     obtain ⟨br15_9, (e9 : f 9 = _), lr15_9, hr15_9⟩ := hR 9 (by decide)
     have nr15_9_8 : br15_9 ≠ br15_8 := fun e => hap 9 8 (by decide) (by decide) rfl rfl (by decide) (by rw [e9, e8, e])
     simp only [yA, yB, yD, yE, e1, e2, e3, e5, e6, e7, e8, e9]
     clear hR hal hap e1 e2 e3 e5 e6 e7 e8 e9
     refine Par.Chain.next (fun K hK => ⟨Par.want (by kernel_rfl) (wp_storeE (.tmp 17) (.tmp 100) rfl rfl rfl rfl (hr15_8) zero6 h3.elt.six (fun Y9_10 hl9_10 => hK.out _ _ ?_))⟩)
     refine Par.Chain.next (fun K hK => ⟨Par.want (by kernel_rfl) (wp_storeE (.tmp 18) (.tmp 104) rfl rfl rfl rfl (hl9_10.other nr15_9_8 (hr15_9)) zero6 h7.elt.six (fun Y9_11 hl9_11 => hK.out _ _ ?_))⟩)
     refine Par.Chain.done ?_
     have d_br6_12_br15_8 : br6_12 ≠ br15_8 := by have := (let ⟨_, h, _⟩ := vbr6_12; h.lt : br6_12 < Y8_5.heap.size); omega
     have d_br6_12_br15_9 : br6_12 ≠ br15_9 := by have := (let ⟨_, h, _⟩ := vbr6_12; h.lt : br6_12 < Y8_5.heap.size); omega
     replace vbr6_12 := (hl9_11.ve d_br6_12_br15_9 (hl9_10.ve d_br6_12_br15_8 (vbr6_12.ext hX)))
     have d_br6_13_br15_8 : br6_13 ≠ br15_8 := by have := (let ⟨_, h, _⟩ := vbr6_13; h.lt : br6_13 < Y8_5.heap.size); omega
     have d_br6_13_br15_9 : br6_13 ≠ br15_9 := by have := (let ⟨_, h, _⟩ := vbr6_13; h.lt : br6_13 < Y8_5.heap.size); omega
     replace vbr6_13 := (hl9_11.ve d_br6_13_br15_9 (hl9_10.ve d_br6_13_br15_8 (vbr6_13.ext hX)))
     have d_br7_10_br15_8 : br7_10 ≠ br15_8 := by have := (let ⟨_, h, _⟩ := vbr7_10; h.lt : br7_10 < Y8_5.heap.size); omega
     have d_br7_10_br15_9 : br7_10 ≠ br15_9 := by have := (let ⟨_, h, _⟩ := vbr7_10; h.lt : br7_10 < Y8_5.heap.size); omega
     replace vbr7_10 := (hl9_11.ve d_br7_10_br15_9 (hl9_10.ve d_br7_10_br15_8 (vbr7_10.ext hX)))
     have d_br7_11_br15_8 : br7_11 ≠ br15_8 := by have := (let ⟨_, h, _⟩ := vbr7_11; h.lt : br7_11 < Y8_5.heap.size); omega
     have d_br7_11_br15_9 : br7_11 ≠ br15_9 := by have := (let ⟨_, h, _⟩ := vbr7_11; h.lt : br7_11 < Y8_5.heap.size); omega
     replace vbr7_11 := (hl9_11.ve d_br7_11_br15_9 (hl9_10.ve d_br7_11_br15_8 (vbr7_11.ext hX)))
     have d_br8_18_br15_8 : br8_18 ≠ br15_8 := by have := (let ⟨_, h, _⟩ := vbr8_18; h.lt : br8_18 < Y8_5.heap.size); omega
     have d_br8_18_br15_9 : br8_18 ≠ br15_9 := by have := (let ⟨_, h, _⟩ := vbr8_18; h.lt : br8_18 < Y8_5.heap.size); omega
     replace vbr8_18 := (hl9_11.ve d_br8_18_br15_9 (hl9_10.ve d_br8_18_br15_8 (vbr8_18.ext hX)))
     have d_br8_19_br15_8 : br8_19 ≠ br15_8 := by have := (let ⟨_, h, _⟩ := vbr8_19; h.lt : br8_19 < Y8_5.heap.size); omega
     have d_br8_19_br15_9 : br8_19 ≠ br15_9 := by have := (let ⟨_, h, _⟩ := vbr8_19; h.lt : br8_19 < Y8_5.heap.size); omega
     replace vbr8_19 := (hl9_11.ve d_br8_19_br15_9 (hl9_10.ve d_br8_19_br15_8 (vbr8_19.ext hX)))
     have d_br9_8_br15_8 : br9_8 ≠ br15_8 := by have := (let ⟨_, h, _⟩ := vbr9_8; h.lt : br9_8 < Y8_5.heap.size); omega
     have d_br9_8_br15_9 : br9_8 ≠ br15_9 := by have := (let ⟨_, h, _⟩ := vbr9_8; h.lt : br9_8 < Y8_5.heap.size); omega
     replace vbr9_8 := (hl9_11.ve d_br9_8_br15_9 (hl9_10.ve d_br9_8_br15_8 (vbr9_8.ext hX)))
     have d_br9_9_br15_8 : br9_9 ≠ br15_8 := by have := (let ⟨_, h, _⟩ := vbr9_9; h.lt : br9_9 < Y8_5.heap.size); omega
     have d_br9_9_br15_9 : br9_9 ≠ br15_9 := by have := (let ⟨_, h, _⟩ := vbr9_9; h.lt : br9_9 < Y8_5.heap.size); omega
     replace vbr9_9 := (hl9_11.ve d_br9_9_br15_9 (hl9_10.ve d_br9_9_br15_8 (vbr9_9.ext hX)))
     have d_br14_4_br15_8 : br14_4 ≠ br15_8 := by have := (let ⟨_, h, _⟩ := vbr14_4; h.lt : br14_4 < Y8_5.heap.size); omega
     have d_br14_4_br15_9 : br14_4 ≠ br15_9 := by have := (let ⟨_, h, _⟩ := vbr14_4; h.lt : br14_4 < Y8_5.heap.size); omega
     replace vbr14_4 := (hl9_11.ve d_br14_4_br15_9 (hl9_10.ve d_br14_4_br15_8 (vbr14_4.ext hX)))
     have vbr15_8 : VE Y9_11 M n br15_8 u12 := (hl9_11.ve (Ne.symm nr15_9_8) (hl9_10.mk' h3))
     have lb_vbr15_8 := Nat.le_trans hE.bsize lr15_8
     have vbr15_9 : VE Y9_11 M n br15_9 u13 := (hl9_11.mk' h7)
     have lb_vbr15_9 := Nat.le_trans hE.bsize lr15_9
     have d_br15_8_br15_9 : br15_8 ≠ br15_9 := (Ne.symm nr15_9_8)
     have hE' : Ext W0 Y9_11 := (hl9_11.ext (hl9_10.ext (hE.trans hX) (Nat.le_trans hE.bsize lr15_8)) (Nat.le_trans hE.bsize lr15_9))
     clear hE hX hl9_10 hl9_11 h1 h2 h3 h5 h6 h7
     have hE := hE'
     clear hE'
     go_upto_region 16 with fail
     refine Par.region_ext (by kernel_rfl) 14 [0, 0, 0, 0, 0, 28, 0, 126, 0, 0, 0, 2046, 4095, 0, 16383] [13] (fun j f X => match j with
      | 0 => f 0 = .pointer (some ⟨g, 0, none⟩)
      | 1 => f 1 = .pointer (some ⟨g, 0, none⟩)
      | 2 => f 2 = .pointer (some ⟨g, 0, none⟩)
      | 3 => ∃ o, f 3 = EV o ∧ FE M n o u10
      | 4 => ∃ o, f 4 = EV o ∧ FE M n o u10
      | 5 => ∃ o, f 5 = EV o ∧ FE M n o u14
      | 6 => ∃ o, f 6 = EV o ∧ FE M n o u12
      | 7 => ∃ o, f 7 = EV o ∧ FE M n o u15
      | 8 => f 8 = .pointer (some ⟨g, 0, none⟩)
      | 9 => ∃ o, f 9 = EV o ∧ FE M n o u13
      | 10 => ∃ o, f 10 = EV o ∧ FE M n o u13
      | 11 => ∃ o, f 11 = EV o ∧ FE M n o u16
      | 12 => ∃ o, f 12 = EV o ∧ FE M n o u17
      | 13 => ∃ b, f 13 = .pointer (some ⟨b, 0, none⟩) ∧ Y9_11.heap.size ≤ b ∧ X.heap[b]? = some (.cells #[.int .u64 0, .int .u64 0, .int .u64 0, .int .u64 0, .int .u64 0, .int .u64 0] 160 (0, 0))
      | _ => True) (by kernel_rfl) [(105, 0), (106, 1), (107, 2), (108, 3), (109, 4), (110, 5), (111, 6), (112, 7), (113, 8), (114, 9), (115, 10), (116, 11), (117, 12), (19, 13)] (by kernel_rfl) ?_
     refine Par.v0 1 13 ?_
     refine Par.v0 2 12 ?_
     refine Par.v0 3 11 ?_
     refine lX 4 10 (fun X hX => let ⟨o, hbl, ho⟩ := vbr9_9.ext hX; ⟨o, hbl.range, ho⟩) ?_
     refine lX 5 9 (fun X hX => let ⟨o, hbl, ho⟩ := vbr9_9.ext hX; ⟨o, hbl.range, ho⟩) ?_
     refine fc 6 8 2 3 4 (fun X hX _ _ h h' => fm_any X (hn.out.ext hP0' (hE.trans hX)).fr.ff h h') E_u14.out ?_
     refine lX 7 7 (fun X hX => let ⟨o, hbl, ho⟩ := vbr15_8.ext hX; ⟨o, hbl.range, ho⟩) ?_
     refine fc 8 6 1 5 6 (fun X hX _ _ h h' => fs_any X (hn.out.ext hP0' (hE.trans hX)).fr.ff h h') E_u15.out ?_
     refine Par.v0 9 5 ?_
     refine lX 10 4 (fun X hX => let ⟨o, hbl, ho⟩ := vbr15_9.ext hX; ⟨o, hbl.range, ho⟩) ?_
     refine lX 11 3 (fun X hX => let ⟨o, hbl, ho⟩ := vbr15_9.ext hX; ⟨o, hbl.range, ho⟩) ?_
     refine fc 12 2 8 9 10 (fun X hX _ _ h h' => fa_any X (hn.out.ext hP0' (hE.trans hX)).fr.ff h h') E_u16.out ?_
     refine fc 13 1 0 7 11 (fun X hX _ _ h h' => fs_any X (hn.out.ext hP0' (hE.trans hX)).fr.ff h h') E_u17.out ?_
     refine Par.al 14 0 ?_
     refine Par.AllOps.fin ⟨fun f X hX hR hal hap => ?_⟩
     obtain ⟨o3, (e3 : f 3 = _), h3⟩ := hR 3 (by decide)
     obtain ⟨o4, (e4 : f 4 = _), h4⟩ := hR 4 (by decide)
     obtain ⟨o5, (e5 : f 5 = _), h5⟩ := hR 5 (by decide)
     obtain ⟨o6, (e6 : f 6 = _), h6⟩ := hR 6 (by decide)
     obtain ⟨o7, (e7 : f 7 = _), h7⟩ := hR 7 (by decide)
     obtain ⟨o9, (e9 : f 9 = _), h9⟩ := hR 9 (by decide)
     obtain ⟨o10, (e10 : f 10 = _), h10⟩ := hR 10 (by decide)
     obtain ⟨o11, (e11 : f 11 = _), h11⟩ := hR 11 (by decide)
     obtain ⟨o12, (e12 : f 12 = _), h12⟩ := hR 12 (by decide)
     obtain ⟨br16_13, (e13 : f 13 = _), lr16_13, hr16_13⟩ := hR 13 (by decide)
     simp only [yA, yB, yD, yE, e3, e4, e5, e6, e7, e9, e10, e11, e12, e13]
     clear hR hal hap e3 e4 e5 e6 e7 e9 e10 e11 e12 e13
     refine Par.Chain.next (fun K hK => ⟨Par.want (by kernel_rfl) (wp_storeE (.tmp 19) (.tmp 117) rfl rfl rfl rfl (hr16_13) zero6 h12.elt.six (fun Y10_14 hl10_14 => hK.out _ _ ?_))⟩)
     refine Par.Chain.done ?_
     have d_br6_12_br16_13 : br6_12 ≠ br16_13 := by have := (let ⟨_, h, _⟩ := vbr6_12; h.lt : br6_12 < Y9_11.heap.size); omega
     replace vbr6_12 := (hl10_14.ve d_br6_12_br16_13 (vbr6_12.ext hX))
     have d_br6_13_br16_13 : br6_13 ≠ br16_13 := by have := (let ⟨_, h, _⟩ := vbr6_13; h.lt : br6_13 < Y9_11.heap.size); omega
     replace vbr6_13 := (hl10_14.ve d_br6_13_br16_13 (vbr6_13.ext hX))
     have d_br7_10_br16_13 : br7_10 ≠ br16_13 := by have := (let ⟨_, h, _⟩ := vbr7_10; h.lt : br7_10 < Y9_11.heap.size); omega
     replace vbr7_10 := (hl10_14.ve d_br7_10_br16_13 (vbr7_10.ext hX))
     have d_br7_11_br16_13 : br7_11 ≠ br16_13 := by have := (let ⟨_, h, _⟩ := vbr7_11; h.lt : br7_11 < Y9_11.heap.size); omega
     replace vbr7_11 := (hl10_14.ve d_br7_11_br16_13 (vbr7_11.ext hX))
     have d_br8_18_br16_13 : br8_18 ≠ br16_13 := by have := (let ⟨_, h, _⟩ := vbr8_18; h.lt : br8_18 < Y9_11.heap.size); omega
     replace vbr8_18 := (hl10_14.ve d_br8_18_br16_13 (vbr8_18.ext hX))
     have d_br8_19_br16_13 : br8_19 ≠ br16_13 := by have := (let ⟨_, h, _⟩ := vbr8_19; h.lt : br8_19 < Y9_11.heap.size); omega
     replace vbr8_19 := (hl10_14.ve d_br8_19_br16_13 (vbr8_19.ext hX))
     have d_br9_8_br16_13 : br9_8 ≠ br16_13 := by have := (let ⟨_, h, _⟩ := vbr9_8; h.lt : br9_8 < Y9_11.heap.size); omega
     replace vbr9_8 := (hl10_14.ve d_br9_8_br16_13 (vbr9_8.ext hX))
     have d_br9_9_br16_13 : br9_9 ≠ br16_13 := by have := (let ⟨_, h, _⟩ := vbr9_9; h.lt : br9_9 < Y9_11.heap.size); omega
     replace vbr9_9 := (hl10_14.ve d_br9_9_br16_13 (vbr9_9.ext hX))
     have d_br14_4_br16_13 : br14_4 ≠ br16_13 := by have := (let ⟨_, h, _⟩ := vbr14_4; h.lt : br14_4 < Y9_11.heap.size); omega
     replace vbr14_4 := (hl10_14.ve d_br14_4_br16_13 (vbr14_4.ext hX))
     have d_br15_8_br16_13 : br15_8 ≠ br16_13 := by have := (let ⟨_, h, _⟩ := vbr15_8; h.lt : br15_8 < Y9_11.heap.size); omega
     replace vbr15_8 := (hl10_14.ve d_br15_8_br16_13 (vbr15_8.ext hX))
     have d_br15_9_br16_13 : br15_9 ≠ br16_13 := by have := (let ⟨_, h, _⟩ := vbr15_9; h.lt : br15_9 < Y9_11.heap.size); omega
     replace vbr15_9 := (hl10_14.ve d_br15_9_br16_13 (vbr15_9.ext hX))
     have vbr16_13 : VE Y10_14 M n br16_13 u17 := (hl10_14.mk' h12)
     have lb_vbr16_13 := Nat.le_trans hE.bsize lr16_13
     have hE' : Ext W0 Y10_14 := (hl10_14.ext (hE.trans hX) (Nat.le_trans hE.bsize lr16_13))
     clear hE hX hl10_14 h3 h4 h5 h6 h7 h9 h10 h11 h12
     have hE := hE'
     clear hE'
     go_upto_region 17 with fail
     refine Par.region_ext (by kernel_rfl) 14 [0, 0, 0, 0, 0, 0, 56, 126, 0, 0, 0, 2046, 4095, 0, 16383] [13] (fun j f X => match j with
      | 0 => f 0 = .pointer (some ⟨g, 0, none⟩)
      | 1 => f 1 = .pointer (some ⟨g, 0, none⟩)
      | 2 => ∃ o, f 2 = EV o ∧ FE M n o u10
      | 3 => f 3 = .pointer (some ⟨g, 0, none⟩)
      | 4 => ∃ o, f 4 = EV o ∧ FE M n o u13
      | 5 => ∃ o, f 5 = EV o ∧ FE M n o u17
      | 6 => ∃ o, f 6 = EV o ∧ FE M n o u18
      | 7 => ∃ o, f 7 = EV o ∧ FE M n o u19
      | 8 => f 8 = .pointer (some ⟨g, 0, none⟩)
      | 9 => ∃ o, f 9 = EV o ∧ FE M n o u6
      | 10 => ∃ o, f 10 = EV o ∧ FE M n o u12
      | 11 => ∃ o, f 11 = EV o ∧ FE M n o u20
      | 12 => ∃ o, f 12 = EV o ∧ FE M n o u21
      | 13 => ∃ b, f 13 = .pointer (some ⟨b, 0, none⟩) ∧ Y10_14.heap.size ≤ b ∧ X.heap[b]? = some (.cells #[.int .u64 0, .int .u64 0, .int .u64 0, .int .u64 0, .int .u64 0, .int .u64 0] 160 (0, 0))
      | _ => True) (by kernel_rfl) [(118, 0), (119, 1), (120, 2), (121, 3), (122, 4), (123, 5), (124, 6), (125, 7), (126, 8), (127, 9), (128, 10), (129, 11), (130, 12), (20, 13)] (by kernel_rfl) ?_
     refine Par.v0 1 13 ?_
     refine Par.v0 2 12 ?_
     refine lX 3 11 (fun X hX => let ⟨o, hbl, ho⟩ := vbr9_9.ext hX; ⟨o, hbl.range, ho⟩) ?_
     refine Par.v0 4 10 ?_
     refine lX 5 9 (fun X hX => let ⟨o, hbl, ho⟩ := vbr15_9.ext hX; ⟨o, hbl.range, ho⟩) ?_
     refine lX 6 8 (fun X hX => let ⟨o, hbl, ho⟩ := vbr16_13.ext hX; ⟨o, hbl.range, ho⟩) ?_
     refine fc 7 7 3 4 5 (fun X hX _ _ h h' => fs_any X (hn.out.ext hP0' (hE.trans hX)).fr.ff h h') E_u18.out ?_
     refine fc 8 6 1 2 6 (fun X hX _ _ h h' => fm_any X (hn.out.ext hP0' (hE.trans hX)).fr.ff h h') E_u19.out ?_
     refine Par.v0 9 5 ?_
     refine lX 10 4 (fun X hX => let ⟨o, hbl, ho⟩ := vbr8_18.ext hX; ⟨o, hbl.range, ho⟩) ?_
     refine lX 11 3 (fun X hX => let ⟨o, hbl, ho⟩ := vbr15_8.ext hX; ⟨o, hbl.range, ho⟩) ?_
     refine fc 12 2 8 9 10 (fun X hX _ _ h h' => fm_any X (hn.out.ext hP0' (hE.trans hX)).fr.ff h h') E_u20.out ?_
     refine fc 13 1 0 7 11 (fun X hX _ _ h h' => fs_any X (hn.out.ext hP0' (hE.trans hX)).fr.ff h h') E_u21.out ?_
     refine Par.al 14 0 ?_
     refine Par.AllOps.fin ⟨fun f X hX hR hal hap => ?_⟩
     obtain ⟨o2, (e2 : f 2 = _), h2⟩ := hR 2 (by decide)
     obtain ⟨o4, (e4 : f 4 = _), h4⟩ := hR 4 (by decide)
     obtain ⟨o5, (e5 : f 5 = _), h5⟩ := hR 5 (by decide)
     obtain ⟨o6, (e6 : f 6 = _), h6⟩ := hR 6 (by decide)
     obtain ⟨o7, (e7 : f 7 = _), h7⟩ := hR 7 (by decide)
     obtain ⟨o9, (e9 : f 9 = _), h9⟩ := hR 9 (by decide)
     obtain ⟨o10, (e10 : f 10 = _), h10⟩ := hR 10 (by decide)
     obtain ⟨o11, (e11 : f 11 = _), h11⟩ := hR 11 (by decide)
     obtain ⟨o12, (e12 : f 12 = _), h12⟩ := hR 12 (by decide)
     obtain ⟨br17_13, (e13 : f 13 = _), lr17_13, hr17_13⟩ := hR 13 (by decide)
     simp only [yA, yB, yD, yE, e2, e4, e5, e6, e7, e9, e10, e11, e12, e13]
     clear hR hal hap e2 e4 e5 e6 e7 e9 e10 e11 e12 e13
     refine Par.Chain.next (fun K hK => ⟨Par.want (by kernel_rfl) (wp_storeE (.tmp 20) (.tmp 130) rfl rfl rfl rfl (hr17_13) zero6 h12.elt.six (fun Y11_14 hl11_14 => hK.out _ _ ?_))⟩)
     refine Par.Chain.done ?_
     have d_br6_12_br17_13 : br6_12 ≠ br17_13 := by have := (let ⟨_, h, _⟩ := vbr6_12; h.lt : br6_12 < Y10_14.heap.size); omega
     replace vbr6_12 := (hl11_14.ve d_br6_12_br17_13 (vbr6_12.ext hX))
     have d_br6_13_br17_13 : br6_13 ≠ br17_13 := by have := (let ⟨_, h, _⟩ := vbr6_13; h.lt : br6_13 < Y10_14.heap.size); omega
     replace vbr6_13 := (hl11_14.ve d_br6_13_br17_13 (vbr6_13.ext hX))
     have d_br7_10_br17_13 : br7_10 ≠ br17_13 := by have := (let ⟨_, h, _⟩ := vbr7_10; h.lt : br7_10 < Y10_14.heap.size); omega
     replace vbr7_10 := (hl11_14.ve d_br7_10_br17_13 (vbr7_10.ext hX))
     have d_br7_11_br17_13 : br7_11 ≠ br17_13 := by have := (let ⟨_, h, _⟩ := vbr7_11; h.lt : br7_11 < Y10_14.heap.size); omega
     replace vbr7_11 := (hl11_14.ve d_br7_11_br17_13 (vbr7_11.ext hX))
     have d_br8_18_br17_13 : br8_18 ≠ br17_13 := by have := (let ⟨_, h, _⟩ := vbr8_18; h.lt : br8_18 < Y10_14.heap.size); omega
     replace vbr8_18 := (hl11_14.ve d_br8_18_br17_13 (vbr8_18.ext hX))
     have d_br8_19_br17_13 : br8_19 ≠ br17_13 := by have := (let ⟨_, h, _⟩ := vbr8_19; h.lt : br8_19 < Y10_14.heap.size); omega
     replace vbr8_19 := (hl11_14.ve d_br8_19_br17_13 (vbr8_19.ext hX))
     have d_br9_8_br17_13 : br9_8 ≠ br17_13 := by have := (let ⟨_, h, _⟩ := vbr9_8; h.lt : br9_8 < Y10_14.heap.size); omega
     replace vbr9_8 := (hl11_14.ve d_br9_8_br17_13 (vbr9_8.ext hX))
     have d_br9_9_br17_13 : br9_9 ≠ br17_13 := by have := (let ⟨_, h, _⟩ := vbr9_9; h.lt : br9_9 < Y10_14.heap.size); omega
     replace vbr9_9 := (hl11_14.ve d_br9_9_br17_13 (vbr9_9.ext hX))
     have d_br14_4_br17_13 : br14_4 ≠ br17_13 := by have := (let ⟨_, h, _⟩ := vbr14_4; h.lt : br14_4 < Y10_14.heap.size); omega
     replace vbr14_4 := (hl11_14.ve d_br14_4_br17_13 (vbr14_4.ext hX))
     have d_br15_8_br17_13 : br15_8 ≠ br17_13 := by have := (let ⟨_, h, _⟩ := vbr15_8; h.lt : br15_8 < Y10_14.heap.size); omega
     replace vbr15_8 := (hl11_14.ve d_br15_8_br17_13 (vbr15_8.ext hX))
     have d_br15_9_br17_13 : br15_9 ≠ br17_13 := by have := (let ⟨_, h, _⟩ := vbr15_9; h.lt : br15_9 < Y10_14.heap.size); omega
     replace vbr15_9 := (hl11_14.ve d_br15_9_br17_13 (vbr15_9.ext hX))
     have d_br16_13_br17_13 : br16_13 ≠ br17_13 := by have := (let ⟨_, h, _⟩ := vbr16_13; h.lt : br16_13 < Y10_14.heap.size); omega
     replace vbr16_13 := (hl11_14.ve d_br16_13_br17_13 (vbr16_13.ext hX))
     have vbr17_13 : VE Y11_14 M n br17_13 u21 := (hl11_14.mk' h12)
     have lb_vbr17_13 := Nat.le_trans hE.bsize lr17_13
     have hE' : Ext W0 Y11_14 := (hl11_14.ext (hE.trans hX) (Nat.le_trans hE.bsize lr17_13))
     clear hE hX hl11_14 h2 h4 h5 h6 h7 h9 h10 h11 h12
     have hE := hE'
     clear hE'
     have hb1 := hE.at_ hrb
     go_upto_region 18 with fail
     refine Par.region_ext (by kernel_rfl) 12 [0, 0, 0, 0, 0, 0, 32, 0, 128, 496, 1020, 2047, 4095] [] (fun j f X => match j with
      | 0 => ∃ o, f 0 = EV o ∧ FE M n o u17
      | 1 => ∃ o, f 1 = EV o ∧ FE M n o u21
      | 2 => f 2 = .pointer (some ⟨g, 0, none⟩)
      | 3 => ∃ o, f 3 = EV o ∧ FE M n o u9
      | 4 => f 4 = .pointer (some ⟨g, 0, none⟩)
      | 5 => f 5 = .pointer (some ⟨q, 12, none⟩)
      | 6 => ∃ o, f 6 = EV o ∧ FE M n o z1
      | 7 => f 7 = .pointer (some ⟨q + 1, 12, none⟩)
      | 8 => ∃ o, f 8 = EV o ∧ FE M n o z2
      | 9 => ∃ o, f 9 = EV o ∧ FE M n o u22
      | 10 => ∃ o, f 10 = EV o ∧ FE M n o u23
      | 11 => ∃ ox oy oz, f 11 = JV ox oy oz ∧ FJ M n ox oy oz u17 u21 u23
      | _ => True) (by kernel_rfl) [(131, 0), (132, 1), (133, 2), (134, 3), (135, 4), (136, 5), (137, 6), (138, 7), (139, 8), (140, 9), (141, 10), (142, 11)] (by kernel_rfl) ?_
     refine lX 1 11 (fun X hX => let ⟨o, hbl, ho⟩ := vbr16_13.ext hX; ⟨o, hbl.range, ho⟩) ?_
     refine lX 2 10 (fun X hX => let ⟨o, hbl, ho⟩ := vbr17_13.ext hX; ⟨o, hbl.range, ho⟩) ?_
     refine Par.v0 3 9 ?_
     refine lX 4 8 (fun X hX => let ⟨o, hbl, ho⟩ := vbr9_8.ext hX; ⟨o, hbl.range, ho⟩) ?_
     refine Par.v0 5 7 ?_
     refine Par.v0 6 6 ?_
     refine lE 7 5 5 (fun _ hX => BlkJ.rz ((hE.trans hX).at_ hp1) hJ1.out.x.elt.six hJ1.out.y.elt.six) hJ1.out.z ?_
     refine Par.v0 8 4 ?_
     refine lE 9 3 7 (fun _ hX => BlkJ.rz ((hE.trans hX).at_ hp2) hJ2.out.x.elt.six hJ2.out.y.elt.six) hJ2.out.z ?_
     refine fc 10 2 4 6 8 (fun X hX _ _ h h' => fm_any X (hn.out.ext hP0' (hE.trans hX)).fr.ff h h') E_u22.out ?_
     refine fc 11 1 2 3 9 (fun X hX _ _ h h' => fm_any X (hn.out.ext hP0' (hE.trans hX)).fr.ff h h') E_u23.out ?_
     refine Par.S 12 0 [(131, 0), (132, 1), (133, 2), (134, 3), (135, 4), (136, 5), (137, 6), (138, 7), (139, 8), (140, 9), (141, 10)] (fun f X hX hR K hK => ?_) ?_
     · obtain ⟨o0, (e0 : f 0 = _), h0⟩ := hR.out 0 rfl
       obtain ⟨o1, (e1 : f 1 = _), h1⟩ := hR.out 1 rfl
       obtain ⟨o10, (e10 : f 10 = _), h10⟩ := hR.out 10 rfl
       simp only [yA, yB, yC, yD, yE, e0, e1, e10]
       refine ⟨Par.want (by kernel_rfl) (wp_buildJ (x := o0) (y := o1) (z := o10) (.tmp 131) (.tmp 132) (.tmp 141) rfl rfl rfl rfl h0.elt.six h1.elt.six h10.elt.six ?_)⟩
       exact hK.out _ (JV o0 o1 o10) _ (by simp only [yA, yB, yC, yD, yE, e0, e1, e10]) (Ext.refl _) trivial (fun _ _ => ⟨o0, o1, o10, rfl, ⟨h0, h1, h10⟩⟩)
     refine Par.AllOps.fin ⟨fun f X hX hR hal hap => ?_⟩
     obtain ⟨o0, (e0 : f 0 = _), h0⟩ := hR 0 (by decide)
     obtain ⟨o1, (e1 : f 1 = _), h1⟩ := hR 1 (by decide)
     obtain ⟨o3, (e3 : f 3 = _), h3⟩ := hR 3 (by decide)
     obtain ⟨o6, (e6 : f 6 = _), h6⟩ := hR 6 (by decide)
     obtain ⟨o8, (e8 : f 8 = _), h8⟩ := hR 8 (by decide)
     obtain ⟨o9, (e9 : f 9 = _), h9⟩ := hR 9 (by decide)
     obtain ⟨o10, (e10 : f 10 = _), h10⟩ := hR 10 (by decide)
     obtain ⟨ox, oy, oz, (e11 : f 11 = _), f11⟩ := hR 11 (by decide)
     simp only [yA, yB, yD, yE, e0, e1, e3, e6, e8, e9, e10, e11]
     clear hR hal hap e0 e1 e3 e6 e8 e9 e10 e11
     refine Par.Chain.next (fun K hK => ⟨Par.want (by kernel_rfl) (wp_storeJ (x := ox) (y := oy) (z := oz) (.tmp 6) (.tmp 142) rfl rfl rfl rfl (hX.at_ hb1) rfl f11.x.elt.six f11.y.elt.six f11.z.elt.six (fun Y hY1 hY2 hY3 => hK.out _ _ ?_))⟩)
     refine Par.Chain.done ?_
     go_wp2
     exact end_j rfl rfl rfl hY1 f11.x.elt.six f11.y.elt.six f11.z.elt.six ⟨_, _, _, rfl, f11, hY2.ext (HE0.out.trans (hE.trans hX)) (by have := Hq.out; omega)⟩
end Go.Proofs.YtendnkpiidhogaaGreat

namespace Go.Proofs.YtendnkpiidhogaaGreat
open Go.RowKit Go.Shelf

attribute [local go_sem] Oper.semAt_some

def bitAt (x : Nat) (j : Nat) : Nat × Nat := (nbits x - 1 - j, x / 2 ^ (nbits x - 1 - j) % 2)

set_option maxRecDepth 100000 in
set_option maxHeartbeats 1000000 in
theorem each_any (P : Nat → Prop) (A : Option Addr) (c : Nat) (a : List Nat) (w : World) (h : RN w P A c a) (hP : ∀ b, P b → b < w.heap.size) :
 Calls Tryz.prog 181 #[.slice A a.length c] w fun e w' => ∃ A1 c1, e = .returned (.func (.func 215) #[] #[.pointer (some ⟨w.heap.size, 0, none⟩)]) ∧
  w'.heap[w.heap.size]? = some (.cells #[.slice A1 (digs 18446744073709551616 (val 18446744073709551616 a)).length c1] 106 (0, 0)) ∧ OB w' w.heap.size A1 c1 (digs 18446744073709551616 (val 18446744073709551616 a)) ∧ Below w.heap.size w w' := by
 have hm := Lib.hid (fun w h => made_any P A c a w h)
 have hR : RN (w.alloc (.cells #[.slice A a.length c] 106)) P A c a := h.below ((Below.refl _ w).alloc (Nat.le_refl _) _) hP
 generalize digs 18446744073709551616 (val 18446744073709551616 a) = l at *
 go_enter Tryz.func181, Tryz.ntmps181
 go_wp2_with fail
 refine (hm.out _ hR).mono ?_
 rintro e w1 ⟨A1, c1, rfl, hO, hB⟩
 have hb := (hB.block w.heap.size (by simp)).trans (heap_alloc_new w _)
 have f0 := blk_free hb 0
 have c0 := blk_cell hb 0
 simp at c0
 go_wp2
 go_ret
 refine ⟨A1, c1, rfl, ?_, ?_, (((Below.refl _ w).alloc (Nat.le_refl _) _).trans (hB.mono (by simp))).setCell (p := ⟨w.heap.size, 0, none⟩) (Nat.le_refl _) _⟩
 · simp [World.setCell, Array.getElem?_modify, hb]
 · obtain ⟨h1, h2, h3, h4⟩ := hO
   refine ⟨h1, h2, h3, fun hn => ?_⟩
   obtain ⟨g, cur, e, hg, hh, hc⟩ := h4 hn
   simp at hg
   exact ⟨g, cur, e, by omega, (Below.heap_setCell _ _ _ _ (by show g ≠ w.heap.size; omega)).trans hh, hc⟩

end Go.Proofs.YtendnkpiidhogaaGreat

namespace Go.Proofs.YtendnkpiidhogaaGreat
open Go.RowKit Go.Shelf

attribute [local go_sem] Oper.semAt_some

def Stay (lo hi : Nat) (W W' : World) : Prop := W.heap.size ≤ W'.heap.size ∧ ∀ k, lo ≤ k → k < hi → W'.heap[k]? = W.heap[k]?
theorem Stay.trans {lo hi : Nat} {a b c : World} (h : Stay lo hi a b) (k : Stay lo hi b c) : Stay lo hi a c := ⟨Nat.le_trans h.1 k.1, fun i h1 h2 => (k.2 i h1 h2).trans (h.2 i h1 h2)⟩
theorem Stay.refl (lo hi : Nat) (w : World) : Stay lo hi w w := ⟨Nat.le_refl _, fun _ _ _ => rfl⟩

set_option maxRecDepth 100000 in
set_option maxHeartbeats 2000000 in
theorem each_seq (Bs lo n₀ : Nat) (P : Nat → Prop) (A : Option Addr) (c : Nat) (a : List Nat) (w : World) (hP : ∀ b, P b → lo ≤ b ∧ b < n₀) (hlo : lo ≤ Bs) (hBs : Bs < n₀) (hn₀ : n₀ ≤ w.heap.size) (hc0 : w.cell? ⟨Bs, 0, none⟩ = some (.slice A a.length c)) (hR0 : RN w P A c a) :
 SeqAt Tryz.prog 215 #[.pointer (some ⟨Bs, 0, none⟩)] (fun k => #[.int .i64 ((bitAt (val 18446744073709551616 a) k).1 : Int), .int .u64 ((bitAt (val 18446744073709551616 a) k).2 : Int)]) NoNeed TPlain (Stay lo n₀) 0 (nbits (val 18446744073709551616 a)) true w := by
 intro n l' J J' Jx W hn hW _ _ _ _ _ hT _ hY h0
 have hc := (hW.cell (p := ⟨Bs, 0, none⟩) (Nat.lt_of_lt_of_le hBs hn₀)).trans hc0
 have hR := hR0.below hW fun b hb => Nat.lt_of_lt_of_le (hP b hb).2 hn₀
 have zW := hW.size
 clear hc0 hR0
 have hbits := Lib.hid (fun W (h : RN W P A c a) => (callsIn_wide (n := n - 1)).2 (bits_any P A c a W h))
 have hbit := Lib.hid (fun i W (h : RN W P A c a) (hi : i ≤ 9223372036854775807) => (callsIn_wide (n := n - 1)).2 (bit_any P A c a i W h hi))
 have hcap := hR.cap
 have hnb : nbits (val 18446744073709551616 a) ≤ 64 * a.length := by
  apply nbits_le
  have := val_lt hR.2.1
  rwa [show (18446744073709551616 : Nat) = 2 ^ 64 by decide, ← Nat.pow_mul] at this
 have hbv := fun k => (show bitOf (val 18446744073709551616 a) ((k : Nat) : Int) = val 18446744073709551616 a / 2 ^ k % 2 by simp [bitOf, show ¬ (k : Int) < 0 by omega])
 have Hbv := Lib.hid hbv
 clear hbv
 generalize hx : val 18446744073709551616 a = x at *
 have hba := Lib.hid (fun k => (show bitAt x k = (nbits x - 1 - k, x / 2 ^ (nbits x - 1 - k) % 2) by rfl))
 obtain ⟨nb, hnb'⟩ : ∃ nb, nbits x = nb := ⟨_, rfl⟩
 rw [hnb'] at hbits hba hnb hY hT ⊢
 have HT := Lib.hid hT
 have HY := Lib.hid hY
 clear hT hY
 clear hx hnb'
 have hnb1 : nb ≤ 64000000 := by have := hcap.2.2; omega
 clear hnb
 refine callsIn_of_wp Tryz.func215 rfl trivial ?_ rfl
 simp only [Tryz.ntmps215, List.size_toArray, List.length_cons, List.length_nil, Nat.reduceAdd, Nat.reduceSub, Array.replicate_succ, Array.replicate_zero, List.push_toArray, List.append_toArray, List.nil_append, List.cons_append]
 gi_wp2
 refine ⟨trivial, (hbits.out _ hR).mono ?_⟩
 rintro e w' ⟨rfl, rfl⟩
 have Hst := Lib.hid (Below1.start nb)
 gi_wp2
 gi_loopw [3] (fun i wr => ∃ (k : Nat) (z : Int), k ≤ nb ∧ Below1 (nb - k) z ∧ i = .int .i64 z ∧ J k wr ∧ Stay lo n₀ W wr)
  (fun i _ => (intOf i + 1).toNat)
 case atStart => exact ⟨0, _, Nat.zero_le _, Hst.out, rfl, h0, Stay.refl _ _ _⟩
 case round =>
  obtain ⟨k, z, hk, hz, rfl, hJs, hnx⟩ := hrel
  have hcx := (World.cell?_of_block (w' := wr) (a := ⟨Bs, 0, none⟩) (hnx.2 Bs hlo hBs)).trans hc
  have hRx := hR.keep (w' := wr) fun p hp => World.cell?_of_block (hnx.2 _ (hP _ hp).1 (hP _ hp).2)
  rcases hz with ⟨hk0, rfl⟩ | ⟨j, hj, rfl⟩
  · obtain rfl : k = nb := by omega
    have hjn := HT.out k _ _ (Nat.le_refl _) hJs (World.grownBy.refl wr none)
    gi_wp2
    go_end0
    exact ⟨⟨_, rfl⟩, .inl hjn⟩
  · obtain ⟨fn, tmps, assign, body, hy, hRo⟩ := HY.out k wr (HT.out k _ _ hk hJs (World.grownBy.refl wr none)) (by omega) (by have := hnx.1; omega)
    have hb1 := hba.out k
    rw [show nb - 1 - k = j by omega] at hb1
    have hbj := hbit.out (j : Int) wr hRx (by omega)
    rw [Hbv.out j] at hbj
    rw [hb1] at hy
    obtain ⟨bb, hbb⟩ : ∃ bb, x / 2 ^ j % 2 = bb := ⟨_, rfl⟩
    rw [hbb] at hy hb1 hbj
    dsimp only at hy
    have Hbj := Lib.hid hbj
    have Hb1 := Lib.hid hb1
    clear hb1 hbj hbb
    gi_wp2
    refine ⟨trivial, Hbj.out.mono ?_⟩
    rintro e w' ⟨rfl, rfl⟩
    gi_wp2
    refine hRo.mono ?_
    rintro e W3 (⟨rfl, hJ3, hk3, _⟩ | ⟨rfl, hJx3, _⟩)
    · gi_wp2
      go_roundw
      case rel => exact ⟨k + 1, _, by omega, by rw [show nb - (k + 1) = j by omega]; exact Below1.start j, rfl, hJ3, hnx.trans hk3⟩
      case measure => simp [intOf]
    · gi_wp2
      refine bodyPost_ret (results_none rfl _ _ _) rfl ?_
      exact ⟨⟨_, rfl⟩, .inr ⟨k + 1, by omega, by omega, hJx3⟩⟩
end Go.Proofs.YtendnkpiidhogaaGreat

namespace Go.Proofs.YtendnkpiidhogaaGreat
open Go.RowKit Go.Shelf

attribute [local go_sem] Oper.semAt_some

def ztopOf (E k : Nat) : Nat := E / 2 ^ (nbits E - k)
theorem ztopOf_zero (E : Nat) : ztopOf E 0 = 0 := by rw [ztopOf, Nat.sub_zero]; exact Nat.div_eq_of_lt (lt_of_nbits (Nat.le_refl _))
theorem ztopOf_all (E : Nat) : ztopOf E (nbits E) = E := by rw [ztopOf, Nat.sub_self, Nat.pow_zero, Nat.div_one]
theorem ztopOf_succ {E k : Nat} (hk : k < nbits E) : ztopOf E (k + 1) = 2 * ztopOf E k + (bitAt E k).2 := by
 rw [ztopOf, ztopOf, bitAt, show nbits E - k = (nbits E - (k + 1)) + 1 by omega, show nbits E - 1 - k = nbits E - (k + 1) by omega, Nat.pow_succ, ← Nat.div_div_eq_div_mul]
 have := Nat.div_add_mod (E / 2 ^ (nbits E - (k + 1))) 2
 omega
theorem zpow_top {x E k : Nat} (hk : k < nbits E) (hb : (bitAt E k).2 = 0) : x ^ ztopOf E (k + 1) = x ^ ztopOf E k * x ^ ztopOf E k := by
 rw [ztopOf_succ hk, hb, Nat.add_zero, Nat.two_mul, Nat.pow_add]
theorem zpow_top1 {x E k : Nat} (hk : k < nbits E) (hb : (bitAt E k).2 = 1) : x ^ ztopOf E (k + 1) = x ^ ztopOf E k * x ^ ztopOf E k * x := by
 rw [ztopOf_succ hk, hb, Nat.pow_succ, Nat.two_mul, Nat.pow_add]
theorem Keeps.just {B C g : Nat} {X Y : World} {cs : Array Value} {t : TypeId} {fr : Nat × Nat} (h : Just g X Y) (hg : X.heap[g]? = some (.cells cs t fr)) : Keeps B C 0 X Y :=
 ⟨h.size, fun k o _ hk ho => by
  by_cases hkg : k = g
  · subst hkg
    rw [hg] at hk
    cases hk
    cases ho
  · exact (h.block k (blk_lt hk) hkg).trans hk, fun k h1 h2 => absurd h2 (by omega)⟩
theorem Just.stay {g lo hi : Nat} {X Y : World} (h : Just g X Y) (hg : g < lo) (hi' : hi ≤ X.heap.size) : Stay lo hi X Y := ⟨h.size, fun k h1 h2 => h.block k (by omega) (by omega)⟩
theorem Ext.stay {lo hi : Nat} {X Y : World} (h : Ext X Y) (hi' : hi ≤ X.heap.size) : Stay lo hi X Y := ⟨h.bsize, fun k _ h2 => Below.block h k (by omega)⟩

theorem three_z (w : World) (o1 o2 o3 : Obj) : (((w.alloc o1).alloc o2).alloc o3).heap[w.heap.size]? = some o1 ∧ (((w.alloc o1).alloc o2).alloc o3).heap[w.heap.size + 1]? = some o2 ∧ (((w.alloc o1).alloc o2).alloc o3).heap[w.heap.size + 2]? = some o3 ∧ (((w.alloc o1).alloc o2).alloc o3).heap.size = w.heap.size + 3 := by
 have h1 := heap_alloc_new (w.alloc o1) o2
 have h2 := heap_alloc_new ((w.alloc o1).alloc o2) o3
 rw [World.size_alloc] at h1 h2
 rw [World.size_alloc] at h2
 exact ⟨(Ext.alloc _ _).at_ ((Ext.alloc _ _).at_ (heap_alloc_new w o1)), (Ext.alloc _ _).at_ h1, h2, by simp⟩
set_option maxRecDepth 100000 in
set_option maxHeartbeats 8000000 in
theorem zexp_any {g n inv M : Nat} {ml ol rl la : List Nat} (w : World) (hF : FR w g n inv M ml ol rl) (hone : FE M n ol 1) (x E : Nat) (ha : FE M n la x) (Pe : Nat → Prop) (Ae : Option Addr) (ce : Nat) (e : List Nat) (he : RN w Pe Ae ce e) (hPe : ∀ b, Pe b → b < w.heap.size) (hE : val 18446744073709551616 e = E) :
 Calls Tryz.prog 216 #[.pointer (some ⟨g, 0, none⟩), EV la, .slice Ae e.length ce] w fun e w' => ∃ o, e = .returned (EV o) ∧ FE M n o (x ^ E) ∧ Ext w w' := by
 obtain ⟨W0, hW0⟩ : ∃ W0, W0 = ((w.alloc (.cells #[.pointer (some ⟨g, 0, none⟩)] 158)).alloc (.cells (nts la).toArray 160)).alloc (.cells #[.int .u64 0, .int .u64 0, .int .u64 0, .int .u64 0, .int .u64 0, .int .u64 0] 160) := ⟨_, rfl⟩
 obtain ⟨s, hs⟩ : ∃ s, w.heap.size = s := ⟨_, rfl⟩
 have hE0 : Ext w W0 := by rw [hW0]; exact ((Ext.alloc _ _).trans (Ext.alloc _ _)).trans (Ext.alloc _ _)
 obtain ⟨m0, m1, m2, hz0⟩ := three_z w (.cells #[.pointer (some ⟨g, 0, none⟩)] 158) (.cells (nts la).toArray 160) (.cells #[.int .u64 0, .int .u64 0, .int .u64 0, .int .u64 0, .int .u64 0, .int .u64 0] 160)
 rw [← hW0, hs] at m0 m1 m2 hz0
 have hg := hF.ff.fld.lt
 have c0 : W0.cell? ⟨s, 0, none⟩ = some (.pointer (some ⟨g, 0, none⟩)) := blk_cell m0 0
 have hFR := Lib.hid (fun X (h : Ext w X) => hF.below h hg)
 have HE0 := Lib.hid hE0
 have Hz0 := Lib.hid hz0
 have Hs := Lib.hid hs
 obtain ⟨cs, hcs⟩ : ∃ cs, (nts la).toArray = cs := ⟨_, rfl⟩
 have hA : BlkE W0 (s + 1) la := m1
 rw [show EV la = .agg cs by rw [EV, hcs]]
 rw [hcs] at hW0
 have Hcs := Lib.hid hcs
 clear hcs m0 m1 hE0 hz0
 refine (callsIn_wide (n := 6)).1 ?_
 refine callsIn_of_wp_marks Tryz.func216 rfl trivial ?_ rfl
 simp only [Tryz.ntmps216, List.size_toArray, List.length_cons, List.length_nil, Nat.reduceAdd, Nat.reduceSub, Array.replicate_succ, Array.replicate_zero, List.push_toArray, List.append_toArray, List.nil_append, List.cons_append]
 refine wpIn_wide.2 ?_
 go_upto_region 1 with fail
 rw [← hW0]
 have HW0 := Lib.hid hW0
 clear hW0 hs
 refine Par.region_txt 5 [0, 1, 3, 7, 0, 31] [4] (fun j f X => match j with
  | 0 => f 0 = .pointer (some ⟨g, 0, none⟩)
  | 1 => f 1 = .pointer (some ⟨g, 0, none⟩)
  | 2 => f 2 = .pointer (some ⟨g, 8, none⟩)
  | 3 => f 3 = EV ol
  | 4 => ∃ b, f 4 = .pointer (some ⟨b, 0, none⟩) ∧ W0.heap.size ≤ b ∧ X.heap[b]? = some (.cells #[.int .u64 0, .int .u64 0, .int .u64 0, .int .u64 0, .int .u64 0, .int .u64 0] 160 (0, 0))
  | _ => True) (by kernel_rfl) [(10, 0), (11, 1), (12, 2), (13, 3), (7, 4)] (by kernel_rfl) ?_
 refine Par.ld0 1 4 c0 ?_
 refine Par.v1 2 3 0 ?_
 refine Par.v1 3 2 1 ?_
 refine Par.S 4 1 [(10, 0), (11, 1), (12, 2), (7, 4)] (fun f X hX hR K hK => ?_) ?_
 · have e2 : f 2 = _ := hR.out 2 rfl
   simp only [yA, yB, yC, yD, yE, e2]
   refine ⟨Par.want (by kernel_rfl) (wp_loadE (.tmp 12) rfl rfl (hFR.out X (HE0.out.trans hX)).r_one hone.elt.six ?_)⟩
   exact hK.out _ (EV ol) _ (by simp only [yA, yB, yC, yD, yE, e2]) (Ext.refl _) trivial (fun _ _ => rfl)
 refine Par.al 5 0 ?_
 refine Par.AllOps.fin ⟨fun f X hX hR hal hap => ?_⟩
 have e3 : f 3 = _ := hR 3 (by decide)
 obtain ⟨b4, (e4 : f 4 = _), l4, h4⟩ := hR 4 (by decide)
 simp only [yA, yB, yD, yE, e3, e4]
 clear hR hal hap e3 e4
 refine Par.Chain.next (fun K hK => ⟨Par.want (by kernel_rfl) (wp_storeE (.tmp 7) (.tmp 13) rfl rfl rfl rfl h4 zero6 hone.elt.six (fun Y1 hl1 => hK.out _ _ ?_))⟩)
 refine Par.Chain.done ?_
 have hEq : Ext W0 Y1 := hl1.ext hX (by have := l4; omega)
 have zq : s + 3 ≤ b4 := by have := Hz0.out; omega
 have zq2 : b4 < Y1.heap.size := hl1.blk.lt
 have c1 := hEq.cell c0
 have hA1 : BlkE Y1 (s + 1) la := hEq.at_ hA
 have hq0 : BlkE Y1 b4 ol := hl1.blk
 have m3 := hEq.at_ m2
 have hEw := HE0.out.trans hEq
 have heach := each_any Pe Ae ce e Y1 (he.below hEw hPe) (fun b hb => Nat.lt_of_lt_of_le (hPe b hb) hEw.bsize)
 rw [hE] at heach
 have Heach := Lib.hid heach
 clear heach hl1 l4 h4 hX m2 hA c0
 go_wp2_with (go_at_call 181; refine Heach.out.mono ?_; rintro e' w3 ⟨Ae', ce', rfl, be, hOe, hB3⟩)
 obtain ⟨t, ht⟩ : ∃ t, Y1.heap.size = t := ⟨_, rfl⟩
 rw [ht] at be hOe hB3 zq2
 have zn : t < w3.heap.size := blk_lt be
 have hbe := blk_cell be 0
 simp only [List.getElem?_toArray, List.getElem?_cons_zero] at hbe
 have hseq := each_seq t t w3.heap.size (In t w3.heap.size) Ae' ce' (digs 18446744073709551616 E) w3 (fun b hb => hb) (Nat.le_refl _) zn (Nat.le_refl _) hbe hOe.rn
 rw [val_digs (by omega)] at hseq
 have Hseq := Lib.hid hseq
 have hE3 : Ext Y1 w3 := by rw [← ht] at hB3; exact hB3
 have hEw3 := hEw.trans hE3
 have c3 := hE3.cell c1
 have hA3 : BlkE w3 (s + 1) la := hE3.at_ hA1
 have hq3 : BlkE w3 b4 ol := hE3.at_ hq0
 have m4 := hE3.at_ m3
 have hI0 : VE w3 M n b4 (x ^ ztopOf E 0) := ⟨ol, hq3, by rw [ztopOf_zero, Nat.pow_zero]; exact hone⟩
 have hFR3 := Lib.hid (fun X (h : Below b4 w3 X) => (hFR.out w3 hEw3).below h (by have := Hs.out; omega))
 clear hseq Heach hbe be hOe hB3 hE3 c1 hA1 hq0 m3 hEq
 have hInv : OwnFrom w3.heap.size (fun (k : Nat) X => VE X M n b4 (x ^ ztopOf E k) ∧ Below b4 w3 X) := by
  rintro k X X' row ⟨⟨l, h1, h2⟩, h5⟩ hg' hr
  have hr' := fun r e => (hr r e).2
  exact ⟨⟨l, (grownBy_keeps_cells hg' hr' h1 rfl).trans h1, h2⟩, ownFrom_below (by omega) (by omega) k X X' row h5 hg' hr⟩
 refine (wpIn_wide (n := 6)).1 ?_
 refine' wpIn_iter (by omega) (gf := 215) (lb := #[.pointer (some ⟨t, 0, none⟩)]) (by rw [← ht]; rfl) (enters_of Tryz.func215 (by kernel_rfl) rfl)
  Hseq.out (fun h k => Stay.trans h k) (fun X l o o' hl ho _ _ => ⟨by simp, fun i _ hi => World.putObj_heap_other (by omega)⟩) tplain_keeps (Below.refl _ _) (fun _ => rfl)
  (fun k X => VE X M n b4 (x ^ ztopOf E k) ∧ Below b4 w3 X) (fun k X => VE X M n b4 (x ^ ztopOf E k) ∧ Below b4 w3 X) (fun _ _ _ => False)
  hInv hInv (fun _ _ _ _ _ h => h.elim) (fun _ _ _ _ => trivial) (fun B k A C _ _ hi ht => ?hIT) (fun h => by cases h) ⟨hI0, Below.refl _ _⟩ _ ?assign ?body ?done ?stop
 case hIT => exact ownFrom_plain (I := fun k X => VE X M n b4 (x ^ ztopOf E k) ∧ Below b4 w3 X) (B := w3.heap.size) hInv hi ht
 case assign =>
  intro l k X K hK
  gi_wp2
  exact hK
 case body =>
  rintro l k V ⟨⟨lo, hl, hf⟩, h5⟩ hlt _
  have zV := h5.size
  have hq : b4 < V.heap.size := hl.lt
  have cV : V.cell? ⟨s, 0, none⟩ = some (.pointer (some ⟨g, 0, none⟩)) := (h5.cell (p := ⟨s, 0, none⟩) (by show s < b4; omega)).trans c3
  have hAV : BlkE V (s + 1) la := (h5.block (s + 1) (by omega)).trans hA3
  have hH := Lib.hid hf
  have hbit : (bitAt E k).2 = 0 ∨ (bitAt E k).2 = 1 := by
   have : (bitAt E k).2 < 2 := Nat.mod_lt _ (by omega)
   omega
  obtain ⟨bt, hbt⟩ : ∃ b, (bitAt E k).2 = b := ⟨_, rfl⟩
  rw [hbt] at hbit ⊢
  have Hbt := Lib.hid hbt
  have Hbit := Lib.hid hbit
  have H5 := Lib.hid h5
  obtain ⟨v, hv⟩ : ∃ v, x ^ ztopOf E k = v := ⟨_, rfl⟩
  rw [hv] at hH hf
  have Hv := Lib.hid hv
  have HlV := Lib.hid hl
  clear hv hbt hbit hf h5
  gi_upto_region 4 with fail
  refine Par.region_txt_in 4 [0, 0, 0, 7, 15] [] (fun j f X => match j with
   | 0 => f 0 = .pointer (some ⟨g, 0, none⟩)
   | 1 => f 1 = EV lo
   | 2 => f 2 = EV lo
   | 3 => ∃ o, f 3 = EV o ∧ FE M n o (v * v)
   | _ => True) (by kernel_rfl) [(18, 0), (19, 1), (20, 2), (21, 3)] (by kernel_rfl) (by kernel_rfl) ?_
  refine Par.S 1 3 [(19, 1), (20, 2)] (fun f X hX hR K hK => ?_) ?_
  · have x0 := hX.cell cV
    simp only [yA, yB, yC, yD, yE]
    refine ⟨?_⟩
    go_simp
    exact Par.k hK (s := by simp only [yA, yB, yC, yD, yE])
  refine Par.S 2 2 [(18, 0), (20, 2)] (fun f X hX hR K hK => ?_) ?_
  · simp only [yA, yB, yC, yD, yE]
    refine ⟨Par.want (by kernel_rfl) (wp_loadE (.tmp 7) rfl rfl (BlkE.range (hX.at_ hl)) hH.out.elt.six ?_)⟩
    exact hK.out _ (EV lo) _ (by simp only [yA, yB, yC, yD, yE]) (Ext.refl _) trivial (fun _ _ => rfl)
  refine Par.S 3 1 [(18, 0), (19, 1)] (fun f X hX hR K hK => ?_) ?_
  · simp only [yA, yB, yC, yD, yE]
    refine ⟨Par.want (by kernel_rfl) (wp_loadE (.tmp 7) rfl rfl (BlkE.range (hX.at_ hl)) hH.out.elt.six ?_)⟩
    exact hK.out _ (EV lo) _ (by simp only [yA, yB, yC, yD, yE]) (Ext.refl _) trivial (fun _ _ => rfl)
  refine Par.S 4 0 [(18, 0), (19, 1), (20, 2)] (fun f X hX hR K hK => ?_) ?_
  · have e0 : f 0 = _ := hR.out 0 rfl
    have e1 : f 1 = _ := hR.out 1 rfl
    have e2 : f 2 = _ := hR.out 2 rfl
    simp only [yA, yB, yC, yD, yE, e0, e1, e2]
    refine ⟨?_⟩
    go_simp
    refine (fmul_any X (hFR3.out X (H5.out.trans (Below.mono hX (by omega)))).ff hH.out hH.out).mono ?_
    rintro e w2 ⟨o, rfl, ho, hB⟩
    exact hK.out _ (EV o) _ (by simp only [yA, yB, yC, yD, yE, e0, e1, e2]) hB trivial (fun Y hY => ⟨o, rfl, ho⟩)
  refine Par.AllOps.fin ⟨fun f X hX hR hal hap => ?_⟩
  have e0 : f 0 = _ := hR 0 (by decide)
  have e1 : f 1 = _ := hR 1 (by decide)
  have e2 : f 2 = _ := hR 2 (by decide)
  obtain ⟨o3, (e3 : f 3 = _), h3⟩ := hR 3 (by decide)
  simp only [yA, yB, yD, yE, e0, e1, e2, e3]
  clear hR hal hap e0 e1 e2 e3
  refine Par.Chain.next (fun K hK => ⟨Par.want (by kernel_rfl) (wp_storeE (.tmp 7) (.tmp 21) rfl rfl rfl rfl (hX.at_ hl) (by rw [nts_length]; exact hH.out.elt.six) h3.elt.six (fun Y1 hl1 => hK.out _ _ ?_))⟩)
  refine Par.Chain.done ?_
  refine ⟨nofun, ?_⟩
  have hK1 : Keeps w3.heap.size (w3.heap.size + 2) 0 V Y1 := (Keeps.below hX (Nat.le_refl _)).trans (Keeps.just hl1.just (hX.at_ hl))
  have hS1 : Stay t w3.heap.size V Y1 := Stay.trans (hX.stay zV) (hl1.just.stay zq2 (Nat.le_trans zV hX.bsize))
  have hB1 : Below b4 w3 Y1 := (H5.out.trans (Below.mono hX (by omega))).trans (hl1.just.below (Nat.le_refl _) (by have := hX.bsize; omega))
  have hy1 : BlkE Y1 b4 o3 := hl1.blk
  have zY := hB1.size
  have hq1 : b4 < Y1.heap.size := hy1.lt
  have HK1 := Lib.hid hK1
  have HS1 := Lib.hid hS1
  have HB1 := Lib.hid hB1
  have Hy1 := Lib.hid hy1
  have H3 := Lib.hid h3
  have cY : Y1.cell? ⟨s, 0, none⟩ = some (.pointer (some ⟨g, 0, none⟩)) := (hB1.cell (p := ⟨s, 0, none⟩) (by show s < b4; omega)).trans c3
  have hAY : BlkE Y1 (s + 1) la := (hB1.block (s + 1) (by omega)).trans hA3
  clear hK1 hS1 hB1 hy1 hl1 hX h3 hl cV hAV hH
  rcases Hbit.out with hb0 | hb1
  · have hp := Lib.hid (zpow_top (x := x) hlt (Hbt.out.trans hb0))
    subst hb0
    gi_wp2
    exact ⟨HK1.out, HS1.out, ⟨o3, Hy1.out, by rw [hp.out, Hv.out]; exact H3.out⟩, HB1.out⟩
  · have hp := Lib.hid (zpow_top1 (x := x) hlt (Hbt.out.trans hb1))
    rw [hb1, show ((1 : Nat) : Int) = 1 from rfl]
    gi_upto_region 6 with fail
    rename World => V1
    have hl := Hy1.out
    have zV1 := HB1.out.size
    refine Par.region_txt_in 4 [0, 0, 0, 7, 15] [] (fun j f X => match j with
     | 0 => f 0 = .pointer (some ⟨g, 0, none⟩)
     | 1 => f 1 = EV o3
     | 2 => f 2 = EV la
     | 3 => ∃ o, f 3 = EV o ∧ FE M n o (v * v * x)
     | _ => True) (by kernel_rfl) [(24, 0), (25, 1), (26, 2), (27, 3)] (by kernel_rfl) (by kernel_rfl) ?_
    refine Par.S 1 3 [(25, 1), (26, 2)] (fun f X hX hR K hK => ?_) ?_
    · have x0 := hX.cell cY
      simp only [yA, yB, yC, yD, yE]
      refine ⟨?_⟩
      go_simp
      exact Par.k hK (s := by simp only [yA, yB, yC, yD, yE])
    refine Par.S 2 2 [(24, 0), (26, 2)] (fun f X hX hR K hK => ?_) ?_
    · simp only [yA, yB, yC, yD, yE]
      refine ⟨Par.want (by kernel_rfl) (wp_loadE (.tmp 7) rfl rfl (BlkE.range (hX.at_ hl)) H3.out.elt.six ?_)⟩
      exact hK.out _ (EV o3) _ (by simp only [yA, yB, yC, yD, yE]) (Ext.refl _) trivial (fun _ _ => rfl)
    refine Par.S 3 1 [(24, 0), (25, 1)] (fun f X hX hR K hK => ?_) ?_
    · simp only [yA, yB, yC, yD, yE]
      refine ⟨Par.want (by kernel_rfl) (wp_loadE (.tmp 4) rfl rfl (BlkE.range (hX.at_ hAY)) ha.elt.six ?_)⟩
      exact hK.out _ (EV la) _ (by simp only [yA, yB, yC, yD, yE]) (Ext.refl _) trivial (fun _ _ => rfl)
    refine Par.S 4 0 [(24, 0), (25, 1), (26, 2)] (fun f X hX hR K hK => ?_) ?_
    · have e0 : f 0 = _ := hR.out 0 rfl
      have e1 : f 1 = _ := hR.out 1 rfl
      have e2 : f 2 = _ := hR.out 2 rfl
      simp only [yA, yB, yC, yD, yE, e0, e1, e2]
      refine ⟨?_⟩
      go_simp
      refine (fmul_any X (hFR3.out X (HB1.out.trans (Below.mono hX (by omega)))).ff H3.out ha).mono ?_
      rintro e w2 ⟨o, rfl, ho, hB⟩
      exact hK.out _ (EV o) _ (by simp only [yA, yB, yC, yD, yE, e0, e1, e2]) hB trivial (fun Y hY => ⟨o, rfl, ho⟩)
    refine Par.AllOps.fin ⟨fun f X hX hR hal hap => ?_⟩
    have e0 : f 0 = _ := hR 0 (by decide)
    have e1 : f 1 = _ := hR 1 (by decide)
    have e2 : f 2 = _ := hR 2 (by decide)
    obtain ⟨o5, (e3 : f 3 = _), h3⟩ := hR 3 (by decide)
    simp only [yA, yB, yD, yE, e0, e1, e2, e3]
    clear hR hal hap e0 e1 e2 e3
    refine Par.Chain.next (fun K hK => ⟨Par.want (by kernel_rfl) (wp_storeE (.tmp 7) (.tmp 27) rfl rfl rfl rfl (hX.at_ hl) (by rw [nts_length]; exact H3.out.elt.six) h3.elt.six (fun Y2 hl1 => hK.out _ _ ?_))⟩)
    refine Par.Chain.done ?_
    refine ⟨nofun, ?_⟩
    have hK2 : Keeps w3.heap.size (w3.heap.size + 2) 0 V1 Y2 := (Keeps.below hX (Nat.le_refl _)).trans (Keeps.just hl1.just (hX.at_ hl))
    have hS2 : Stay t w3.heap.size V1 Y2 := Stay.trans (hX.stay zV1) (hl1.just.stay zq2 (Nat.le_trans zV1 hX.bsize))
    have hB2 : Below b4 w3 Y2 := (HB1.out.trans (Below.mono hX (by omega))).trans (hl1.just.below (Nat.le_refl _) (by have := hX.bsize; omega))
    have HK2 := Lib.hid (HK1.out.trans hK2)
    have HS2 := Lib.hid (Stay.trans HS1.out hS2)
    have HB2 := Lib.hid hB2
    have Hy2 := Lib.hid hl1.blk
    have H4 := Lib.hid h3
    clear hK2 hS2 hB2 hl1 h3
    gi_wp2
    exact ⟨HK2.out, HS2.out, ⟨o5, Hy2.out, by rw [hp.out, Hv.out]; exact H4.out⟩, HB2.out⟩
 case done =>
  rintro D V hD ⟨⟨lo, hl, hf⟩, h5⟩ hKD
  rw [ztopOf_all] at hf
  have hmV := (h5.block (s + 2) (by omega)).trans m4
  go_upto_region 7 with fail
  refine Par.region_txt 1 [0, 1] [] (fun j f X => match j with
   | 0 => f 0 = EV lo
   | _ => True) (by kernel_rfl) [(28, 0)] (by kernel_rfl) ?_
  refine Par.S 1 0 [] (fun f X hX hR K hK => ?_) ?_
  · simp only [yB, yC, yD, yE]
    refine ⟨Par.want (by kernel_rfl) (wp_loadE (.tmp 7) rfl rfl (BlkE.range (hX.at_ hl)) hf.elt.six ?_)⟩
    exact hK.out _ (EV lo) _ (by simp only [yB, yC, yD, yE]) (Ext.refl _) trivial (fun _ _ => rfl)
  refine Par.AllOps.fin ⟨fun f X hX hR hal hap => ?_⟩
  have e0 : f 0 = _ := hR 0 (by decide)
  simp only [yA, yB, yD, yE, e0]
  clear hR hal hap e0
  refine Par.Chain.next (fun K hK => ⟨Par.want (by kernel_rfl) (wp_storeE (.tmp 6) (.tmp 28) rfl rfl rfl rfl (hX.at_ hmV) zero6 hf.elt.six (fun Y2 hl1 => hK.out _ _ ?_))⟩)
  refine Par.Chain.done ?_
  go_wp2
  have hKY : Y2.heap[D]? = some (.deferred (some [])) := hl1.other (by omega) (hX.at_ hKD)
  have hrY : (Y2.putObj D (.deferred none)).heap[s + 1 + 1]? = some (.cells (nts lo).toArray 160 (0, 0)) := (World.putObj_heap_other (by omega)).trans hl1.blk
  have hEY : Ext w Y2 := hl1.ext (Below.trans hEw3 (Below.mono (h5.trans (Below.mono hX (by have := h5.size; omega))) (by have := Hs.out; omega))) (by have := Hs.out; omega)
  refine ⟨by simp, .inl ⟨_, _, rfl, run_takeDeferred hKY, _, results_cell_row rfl _ _ (s + 1 + 1) _ _ _ (.array 6 139) rfl hrY Tryz.underlying160 rfl (by rw [List.size_toArray, nts_length, hf.elt.six]; exact infoE), ⟨lo, rfl, hf, Below.trans hEY (belowK_b (w := w) (Nat.le_refl _) Y2 D _ _ (by have := Hs.out; omega) hKY rfl rfl)⟩⟩⟩
 case stop => exact fun _ _ _ _ _ _ _ h _ => h.elim
end Go.Proofs.YtendnkpiidhogaaGreat

namespace Go.Proofs.YtendnkpiidhogaaGreat
open Go.RowKit

def PtV (w : World) (base : Nat) (v : Value) : Option (Nat × Nat) → Prop
 | none => v = infV
 | some p => ∃ A c A' c', v = .agg #[.bool false, .slice A (digs 18446744073709551616 p.1).length c, .slice A' (digs 18446744073709551616 p.2).length c'] ∧ OB w base A c (digs 18446744073709551616 p.1) ∧ OB w base A' c' (digs 18446744073709551616 p.2)

end Go.Proofs.YtendnkpiidhogaaGreat
